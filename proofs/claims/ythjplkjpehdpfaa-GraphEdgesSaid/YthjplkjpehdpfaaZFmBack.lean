/-
  slices.Backward at ints: what its iterator yields.
-/
import Derived.Test.YthjplkjpehdpfaaZFmRng
import Derived.Test.YthjplkjpehdpfaaZD
namespace Go.Proofs.Ythjplkjpehdpfaa
set_option linter.unusedVariables false
open Go.RowKit

section
variable {P : Program} {n : Nat}
theorem zcQ {o : Oper} {a : Act} {w : World} {K K' G : Act → World → Prop} {Q : Exit → Act → World → Prop} (h : o.wp P a w K (ZY G)) (hK : ∀ a w, K a w → K' a w) : o.wpIn Fence.wide n P a w K' Q := by
 refine ⟨fun _ _ => trivial, ?_⟩
 rw [show Fence.wide.round = none from rfl, Oper.semAt_none]
 unfold Oper.wp at h
 generalize (execOp a.eval o).run P w = r at *
 cases r with
 | ok nx w' =>
  cases nx with
  | value v => exact hK _ _ h
  | skip => exact hK _ _ h
  | defer d => exact hK _ _ h
  | enter f args => exact ⟨fun h => by simp [Fence.wide] at h, callsIn_wide.2 (Calls.mono h (fun e w'' he => by cases e <;> first | exact hK _ _ he | exact he.elim | (obtain ⟨_, _, q⟩ := he; exact q.elim)))⟩
  | row row args => exact ⟨fun h => by simp [Fence.wide] at h, fun c cs _ => let ⟨v, w', r, s⟩ := h c cs; ⟨v, w', hK _ _ r, stepsIn_wide.2 s⟩⟩
  | _ => exact h.elim
 | halt x w' => cases x <;> exact h.elim
theorem Zq {ops : Array Oper} {K : Act → World → Prop} {Q : Exit → Act → World → Prop} {L2 : List Oper} (hK : ∀ a w, K a w → wpListIn Fence.wide n P ops Q L2 a w) : ∀ {L : List Oper} {a : Act} {w : World}, wpList P ops (ZY K) L a w → wpListIn Fence.wide n P ops Q (L ++ L2) a w
 | [], a, w, hh => hK a w hh
 | o :: L, a, w, hh => by
  unfold wpList at hh
  rw [List.cons_append]
  unfold wpListIn
  split
  ·rename_i hw
   rw [if_pos hw] at hh
   rcases hh with hh | hh
   ·exact zcQ hh (fun a w q => Zq hK q)
   ·exact absurd hh.2 (yJ _)
  ·rename_i hw
   rw [if_neg hw] at hh
   exact ⟨fun _ _ => trivial, Zq hK hh⟩
theorem zaP {ops : Array Oper} {K : Act → World → Prop} {Q : Exit → Act → World → Prop} {L : List Oper} {a : Act} {w : World} (m : Nat) (h : wpList P ops (ZY K) (L.take m) a w) (hK : ∀ a w, K a w → wpListIn Fence.wide n P ops Q (L.drop m) a w) : wpListIn Fence.wide n P ops Q L a w := by
 have := Zq hK h
 rwa [List.take_append_drop] at this
theorem xh {ops : Array Oper} {K : Act → World → Prop} {Q : Exit → Act → World → Prop} {L : List Oper} {a : Act} {w : World} (h : wpList P ops (ZY K) L a w) (hK : ∀ a w, K a w → Q .normal a w) : wpListIn Fence.wide n P ops Q L a w := by
 have := Zq (L2 := []) (Q := Q) (n := n) hK h
 rwa [List.append_nil] at this
theorem YT {F : Fence} {ops : Array Oper} {Q : Exit → Act → World → Prop} {o : Oper} {rest : List Oper} {a : Act} {w : World} (hg : o.guard = none) (h : o.wpIn F n P a w (wpListIn F n P ops Q rest) Q) : wpListIn F n P ops Q (o :: rest) a w := by
 unfold wpListIn
 rw [if_pos (by unfold Region.wanted; rw [hg])]
 exact h
theorem YU {c : Ctx} {ops : Array Oper} {L : List Oper} {t t' : List (Nat × FV)} {I : Nat → Prop} {a : Act} {W : World} (hI : ∀ b, I b → b < W.heap.size) (hs : a.tmps.size = c.N) (hd : a.defers = []) (h : ∀ d, Rd W I (a.tmps.getD d undef) (look .undef t d)) (hn : ∀ d, (look .undef t d).hand = none)
  (hrun : zd c ops L ⟨t, []⟩ fun s' => s' = ⟨t', []⟩) :
  wpList c.P ops (ZY fun a' W' => (Below W.heap.size W W' ∧ a'.tmps.size = c.N ∧ a'.defers = [] ∧ (∀ d k m, look .undef t' d = .int k m → a'.tmps.getD d undef = .int k m) ∧ ∀ d b, look .undef t' d = .bool b → a'.tmps.getD d undef = .bool b) ∧ ∀ k, (L.all fun o => o.dst != some k) = true → a'.tmps.getD k undef = a.tmps.getD k undef) L a W := by
 have hF := FR.bare hI hs hd h hn
 refine yM (fun a' W' q => ⟨?_, q.2⟩) (Zp (hrun (ZY fun a' W' => ∃ β', FR c.N W { ok := fun b => I b ∨ W.heap.size ≤ b } ⟨t', []⟩ a' W' β') W _ a W _ (fun s a w β hs f => by subst hs; exact ⟨β, f⟩) hF))
 obtain ⟨β', f⟩ := q.1
 refine ⟨f.bel, f.size, f.defers, fun d k m e => ?_, fun d b e => f.ev_bool (x := .tmp d) (s := ⟨t', []⟩) e⟩
 exact f.ev_int (x := .tmp d) (s := ⟨t', []⟩) e
end

end Go.Proofs.Ythjplkjpehdpfaa
