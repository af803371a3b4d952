/-
  simprooflaw20.lives answers true.
-/
import Derived.Test.YthijndjgchbeoaaHistOf
namespace Go.Proofs.Ythijndjgchbeoaa
set_option linter.unusedVariables false
open Go.RowKit

theorem Sl.of_blk {α : Type} {vals : α → List Value} {w : World} {g : Nat} {t : TypeId} {l : List α} (h : Blk w g t (flat vals l)) : Sl vals w w.heap.size (some ⟨g, 0, none⟩) l := fun _ =>
  ⟨g, 0, rfl, h.lt, fun j u hu => by rw [Nat.zero_add, h.cell j]; exact hu⟩

def livesObs : List ObsV := [⟨false, 0, 1, 2, 0⟩, ⟨true, 0, 1, 2, 5⟩]
def livesReqs : List ReqV := [⟨1, 0, 3, 0⟩]
theorem lives_ok : ObsOk livesObs livesReqs := by refine ⟨by decide, by decide, ?_⟩; decide
theorem lives_seq : ObsSeq livesObs := by
  intro i hi
  match i, hi with
  | 0, _ => decide
  | 1, _ => decide
theorem lives_out : hOf livesObs livesReqs = [⟨25, 0, 3, 0, 5, 0, 1, true⟩] := by decide

set_option maxRecDepth 100000 in
theorem lives20_any (w : World) : Calls Try.prog 19 #[] w fun e w' => e = .returned (.bool true) ∧ Below w.heap.size w w' := by
  have B1 := (Blk.new w 35 (flat ObsV.vals livesObs)).alloc (.cells (flat ReqV.vals livesReqs).toArray 37)
  have B2 := Blk.new (w.alloc (.cells (flat ObsV.vals livesObs).toArray 35)) 37 (flat ReqV.vals livesReqs)
  have hbW : Below w.heap.size w ((w.alloc (.cells (flat ObsV.vals livesObs).toArray 35)).alloc (.cells (flat ReqV.vals livesReqs).toArray 37)) := ((Below.refl _ _).alloc (Nat.le_refl _) _).alloc (by simp) _
  have hc := hOf_any (some ⟨w.heap.size, 0, none⟩) (some ⟨w.heap.size + 1, 0, none⟩) 2 1 livesObs livesReqs _ (Sl.of_blk B1) (by simpa using Sl.of_blk B2) lives_ok lives_seq
  rw [lives_out] at hc
  simp only [List.length_singleton] at hc
  have Hc := Lib.hid hc
  have Hb := Lib.hid hbW
  clear hc B1 B2 hbW
  go_enter Try.func19, Try.ntmps19
  go_wp2_with fail
  refine Hc.out.mono ?_
  rintro e w1 ⟨A, c, rfl, hown, hb⟩
  obtain ⟨b, o, rfl, hbb, p0, p1, p2, p3, p4, p5, p6, p7⟩ := (Sl.of_own hown rfl).op (i := 0) (by simp)
  simp only [nth, List.getD_cons_zero, Nat.zero_mul, Nat.add_zero] at p0 p1 p2 p3 p4 p5 p6 p7
  have hfin : opEq (⟨25, 0, 3, 0, 5, 0, 1, true⟩ : OpV) ⟨25, 0, 3, 0, 5, 0, 1, true⟩ = true := by decide
  go_wp2_with fail
  go_ret
  exact ⟨by simp, bext Hb.out hb⟩
end Go.Proofs.Ythijndjgchbeoaa
