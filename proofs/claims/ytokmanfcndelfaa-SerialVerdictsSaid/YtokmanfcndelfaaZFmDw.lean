/-
  What code does, told by its form: it holds in every frame, in a round of a range over a function too, and whatever calls wait.
-/
import Derived.Test.YtokmanfcndelfaaZBxx
import Derived.Deep.LoopGhost
import Derived.RangeFuncRecord
import Derived.OrdersIn
import Derived.TacticsIn
import Derived.RangeFuncCalls
namespace Go.Proofs.Ytokmanfcndelfaa
set_option linter.unusedVariables false
open Go.RowKit

def zcL (K : Act → World → Prop) : Exit → Act → World → Prop
 | .normal, a, w => K a w
 | _, _, _ => False
def dwp (P : Program) : Code → (Exit → Act → World → Prop) → Act → World → Prop
 | .skip, Q, a, w => Q .normal a w
 | .label _, Q, a, w => Q .normal a w
 | .exit id, Q, a, w => Q (.exit id) a w
 | .ret, Q, a, w => Q .ret a w
 | .seq x y, Q, a, w => dwp P x (Exit.then (dwp P y Q) Q) a w
 | .block id x, Q, a, w => dwp P x (Exit.inBlock id Q) a w
 | .cond c x y, Q, a, w => ∃ t, a.eval c = .bool t ∧ (t = true → dwp P x Q a w) ∧ (t = false → dwp P y Q a w)
 | .loop x, Q, a, w => ∃ (I : Nat → Act → World → Prop) (n : Nat), I n a w ∧ ∀ n a w, I n a w → dwp P x (Exit.then (fun a w => ∃ m, m < n ∧ I m a w) Q) a w
 | .region _ ops false, Q, a, w => wpList P ops (zcL (Q .normal)) ops.toList a w
 | .region _ ops true, Q, a, w => wpAny P .any ops (zcL (Q .normal)) ops.size (Array.replicate ops.size false) a { w with drawn := w.drawn + 1 }
 | _, _, _, _ => False

section
variable {P : Program}
theorem VZ (K : Act → World → Prop) : ¬ LetsOut (zcL K) := fun ⟨_, _, h⟩ => h
theorem zcL.mono {K K' : Act → World → Prop} (h : ∀ a w, K a w → K' a w) : ∀ e a w, zcL K e a w → zcL K' e a w
 | .normal, a, w, q => h a w q
theorem Ua {o : Oper} {a : Act} {w : World} {K K' G G' : Act → World → Prop} (h : ∀ a w, K a w → K' a w) (hg : ∀ a w, G a w → G' a w) (hh : o.wp P a w K (zcL G)) : o.wp P a w K' (zcL G') := by
 unfold Oper.wp at *
 generalize (execOp a.eval o).run P w = r at *
 cases r with
 | ok n w' =>
  cases n <;> simp only [Oper.upon] at hh ⊢ <;>
   first
    | exact h _ _ hh
    | exact Calls.mono hh (fun e w'' he => by cases e <;> first | exact h _ _ he | exact he.elim | (obtain ⟨_, _, q⟩ := he; exact q.elim))
    | exact Rows.mono hh (fun _ _ he => h _ _ he)
 | halt x w' => cases x <;> simp only [Oper.upon] at hh ⊢ <;> exact hh.elim
theorem YC {ops : Array Oper} {K K' : Act → World → Prop} (h : ∀ a w, K a w → K' a w) : ∀ {l : List Oper} {a : Act} {w : World}, wpList P ops (zcL K) l a w → wpList P ops (zcL K') l a w
 | [], a, w, hh => h a w hh
 | o :: l, a, w, hh => by
  unfold wpList at hh ⊢
  split
  ·rename_i hw
   rw [if_pos hw] at hh
   rcases hh with hh | hh
   ·exact .inl (Ua (fun a w q => YC h q) h hh)
   ·exact absurd hh.2 (VZ _)
  ·rename_i hw
   rw [if_neg hw] at hh
   exact YC h hh
theorem zfL {ops : Array Oper} {K K' G G' : Act → World → Prop} (h : ∀ a w, K a w → K' a w) (hg : ∀ a w, G a w → G' a w) {i : Nat} {a : Act} {w : World} (hh : wpOp P ops (zcL G) i K a w) : wpOp P ops (zcL G') i K' a w := by
 unfold wpOp at *
 split
 ·rename_i ho; rw [ho] at hh; exact h _ _ hh
 ·rename_i o ho
  rw [ho] at hh
  dsimp only at hh
  split
  ·rename_i hw
   rw [if_pos hw] at hh
   rcases hh with hh | hh
   ·exact .inl (Ua h hg hh)
   ·exact absurd hh.2 (VZ _)
  ·rename_i hw
   rw [if_neg hw] at hh
   exact h _ _ hh
theorem UH {ops : Array Oper} {K K' : Act → World → Prop} (h : ∀ a w, K a w → K' a w) : ∀ {fuel : Nat} {listed : Array Bool} {a : Act} {w : World}, wpAny P .any ops (zcL K) fuel listed a w → wpAny P .any ops (zcL K') fuel listed a w
 | 0, _, a, w, hh => ⟨hh.1, h a w hh.2⟩
 | fuel + 1, listed, a, w, hh => ⟨fun e => h a w (hh.1 e), fun i hi => zfL (fun a w q => UH h q) h (hh.2 i hi)⟩
theorem xA : ∀ {c : Code} {Q Q' : Exit → Act → World → Prop} {a : Act} {w : World}, dwp P c Q a w → (∀ e a w, Q e a w → Q' e a w) → dwp P c Q' a w
 | .skip, _, _, _, _, h, hq => hq _ _ _ h
 | .label _, _, _, _, _, h, hq => hq _ _ _ h
 | .exit _, _, _, _, _, h, hq => hq _ _ _ h
 | .ret, _, _, _, _, h, hq => hq _ _ _ h
 | .seq x y, Q, Q', a, w, h, hq => xA (c := x) h fun e a w q => by
   cases e <;> first | exact xA (c := y) q hq | exact hq _ _ _ q
 | .block id x, Q, Q', a, w, h, hq => xA (c := x) h fun e a w q => by
   cases e with
   | exit id' =>
    simp only [Exit.inBlock] at q ⊢
    split
    ·rename_i e; rw [if_pos e] at q; exact hq _ _ _ q
    ·rename_i e; rw [if_neg e] at q; exact hq _ _ _ q
   | _ => exact hq _ _ _ q
 | .cond c x y, Q, Q', a, w, ⟨t, h, h1, h2⟩, hq => ⟨t, h, fun e => xA (c := x) (h1 e) hq, fun e => xA (c := y) (h2 e) hq⟩
 | .loop x, Q, Q', a, w, ⟨I, n, h0, h⟩, hq => ⟨I, n, h0, fun n a w hi => xA (c := x) (h n a w hi) fun e a w q => by
   cases e <;> first | exact q | exact hq _ _ _ q⟩
 | .region _ ops false, _, _, _, _, h, hq => YC (fun a w q => hq _ _ _ q) h
 | .region _ ops true, _, _, _, _, h, hq => UH (fun a w q => hq _ _ _ q) h
theorem WF (hm : P.follows .mixedOrders = true) : ∀ {c : Code} {Q : Exit → Act → World → Prop} {a : Act} {w : World}, dwp P c Q a w → c.wp P Q a w
 | .skip, _, _, _, h => wp_skip h
 | .label _, _, _, _, h => wp_label h
 | .exit _, _, _, _, h => wp_exit h
 | .ret, _, _, _, h => wp_ret h
 | .seq x y, Q, a, w, h => wp_seq (WF hm (xA (c := x) h fun e a w q => by cases e <;> first | exact WF hm (c := y) q | exact q))
 | .block id x, Q, a, w, h => wp_block (WF hm (c := x) h)
 | .cond c x y, Q, a, w, ⟨t, h, h1, h2⟩ => by
  cases t with
  | true => exact wp_cond_true h (WF hm (c := x) (h1 rfl))
  | false => exact wp_cond_false h (WF hm (c := y) (h2 rfl))
 | .loop x, Q, a, w, ⟨I, n, h0, h⟩ => wp_loop_ghost I n h0 fun n a w hi => WF hm (c := x) (h n a w hi)
 | .region _ ops false, Q, _, _, h => wp_mono (wp_region_list h) fun e a w q => by cases e <;> first | exact q | exact q.elim
 | .region _ ops true, Q, _, _, h => wp_mono (wp_region_any hm h) fun e a w q => by cases e <;> first | exact q | exact q.elim

/-! in a round -/
section
variable {l n : Nat}
end
/-! the slots that the code does not write -/
def zjy (a : Act) (nw : Nat → Bool) (K : Act → World → Prop) : Act → World → Prop := fun a' w' => K a' w' ∧ ∀ k, nw k = true → a'.tmps.getD k undef = a.tmps.getD k undef
theorem zjy.trans {a a1 : Act} {w : World} {n1 n2 n3 : Nat → Bool} {K : Act → World → Prop} {a' : Act} (h : zjy a1 n2 K a' w) (h1 : ∀ k, n1 k = true → a1.tmps.getD k undef = a.tmps.getD k undef) (hn : ∀ k, n3 k = true → n1 k = true ∧ n2 k = true) : zjy a n3 K a' w :=
 ⟨h.1, fun k hk => (h.2 k (hn k hk).2).trans (h1 k (hn k hk).1)⟩
end
end Go.Proofs.Ytokmanfcndelfaa
