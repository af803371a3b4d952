/-
  What code does, told by its form: it holds in every frame, in a round of a range over a function too, and whatever calls wait.
-/
import Derived.Test.YthjplkjpehdpfaaZBxx
import Derived.Deep.LoopGhost
import Derived.RangeFuncRecord
import Derived.OrdersIn
import Derived.TacticsIn
import Derived.RangeFuncCalls
namespace Go.Proofs.Ythjplkjpehdpfaa
set_option linter.unusedVariables false
open Go.RowKit

def ZY (K : Act → World → Prop) : Exit → Act → World → Prop
 | .normal, a, w => K a w
 | _, _, _ => False
def dwp (P : Program) : Code → (Exit → Act → World → Prop) → Act → World → Prop
 | .skip, Q, a, w => Q .normal a w
 | .label _, Q, a, w => Q .normal a w
 | .exit id, Q, a, w => Q (.exit id) a w
 | .ret, Q, a, w => Q .ret a w
 | .seq x y, Q, a, w => dwp P x (Exit.then (dwp P y Q) Q) a w
 | .block id x, Q, a, w => dwp P x (Exit.inBlock id Q) a w
 | .cond c x y, Q, a, w => ∃ t, a.eval c = .bool t ∧ (t = true → dwp P x Q a w) ∧ (t = false → dwp P y Q a w)
 | .loop x, Q, a, w => ∃ (I : Nat → Act → World → Prop) (n : Nat), I n a w ∧ ∀ n a w, I n a w → dwp P x (Exit.then (fun a w => ∃ m, m < n ∧ I m a w) Q) a w
 | .region _ ops false, Q, a, w => wpList P ops (ZY (Q .normal)) ops.toList a w
 | .region _ ops true, Q, a, w => wpAny P .any ops (ZY (Q .normal)) ops.size (Array.replicate ops.size false) a { w with drawn := w.drawn + 1 }
 | _, _, _, _ => False

section
variable {P : Program}
theorem yJ (K : Act → World → Prop) : ¬ LetsOut (ZY K) := fun ⟨_, _, h⟩ => h
theorem ZY.mono {K K' : Act → World → Prop} (h : ∀ a w, K a w → K' a w) : ∀ e a w, ZY K e a w → ZY K' e a w
 | .normal, a, w, q => h a w q
theorem WA {o : Oper} {a : Act} {w : World} {K K' G G' : Act → World → Prop} (h : ∀ a w, K a w → K' a w) (hg : ∀ a w, G a w → G' a w) (hh : o.wp P a w K (ZY G)) : o.wp P a w K' (ZY G') := by
 unfold Oper.wp at *
 generalize (execOp a.eval o).run P w = r at *
 cases r with
 | ok n w' =>
  cases n <;> simp only [Oper.upon] at hh ⊢ <;>
   first
    | exact h _ _ hh
    | exact Calls.mono hh (fun e w'' he => by cases e <;> first | exact h _ _ he | exact he.elim | (obtain ⟨_, _, q⟩ := he; exact q.elim))
    | exact Rows.mono hh (fun _ _ he => h _ _ he)
 | halt x w' => cases x <;> simp only [Oper.upon] at hh ⊢ <;> exact hh.elim
theorem yM {ops : Array Oper} {K K' : Act → World → Prop} (h : ∀ a w, K a w → K' a w) : ∀ {l : List Oper} {a : Act} {w : World}, wpList P ops (ZY K) l a w → wpList P ops (ZY K') l a w
 | [], a, w, hh => h a w hh
 | o :: l, a, w, hh => by
  unfold wpList at hh ⊢
  split
  ·rename_i hw
   rw [if_pos hw] at hh
   rcases hh with hh | hh
   ·exact .inl (WA (fun a w q => yM h q) h hh)
   ·exact absurd hh.2 (yJ _)
  ·rename_i hw
   rw [if_neg hw] at hh
   exact yM h hh
theorem zdf {ops : Array Oper} {K K' G G' : Act → World → Prop} (h : ∀ a w, K a w → K' a w) (hg : ∀ a w, G a w → G' a w) {i : Nat} {a : Act} {w : World} (hh : wpOp P ops (ZY G) i K a w) : wpOp P ops (ZY G') i K' a w := by
 unfold wpOp at *
 split
 ·rename_i ho; rw [ho] at hh; exact h _ _ hh
 ·rename_i o ho
  rw [ho] at hh
  dsimp only at hh
  split
  ·rename_i hw
   rw [if_pos hw] at hh
   rcases hh with hh | hh
   ·exact .inl (WA h hg hh)
   ·exact absurd hh.2 (yJ _)
  ·rename_i hw
   rw [if_neg hw] at hh
   exact h _ _ hh
theorem Zo {ops : Array Oper} {K K' : Act → World → Prop} (h : ∀ a w, K a w → K' a w) : ∀ {fuel : Nat} {listed : Array Bool} {a : Act} {w : World}, wpAny P .any ops (ZY K) fuel listed a w → wpAny P .any ops (ZY K') fuel listed a w
 | 0, _, a, w, hh => ⟨hh.1, h a w hh.2⟩
 | fuel + 1, listed, a, w, hh => ⟨fun e => h a w (hh.1 e), fun i hi => zdf (fun a w q => Zo h q) h (hh.2 i hi)⟩
theorem zR : ∀ {c : Code} {Q Q' : Exit → Act → World → Prop} {a : Act} {w : World}, dwp P c Q a w → (∀ e a w, Q e a w → Q' e a w) → dwp P c Q' a w
 | .skip, _, _, _, _, h, hq => hq _ _ _ h
 | .label _, _, _, _, _, h, hq => hq _ _ _ h
 | .exit _, _, _, _, _, h, hq => hq _ _ _ h
 | .ret, _, _, _, _, h, hq => hq _ _ _ h
 | .seq x y, Q, Q', a, w, h, hq => zR (c := x) h fun e a w q => by
   cases e <;> first | exact zR (c := y) q hq | exact hq _ _ _ q
 | .block id x, Q, Q', a, w, h, hq => zR (c := x) h fun e a w q => by
   cases e with
   | exit id' =>
    simp only [Exit.inBlock] at q ⊢
    split
    ·rename_i e; rw [if_pos e] at q; exact hq _ _ _ q
    ·rename_i e; rw [if_neg e] at q; exact hq _ _ _ q
   | _ => exact hq _ _ _ q
 | .cond c x y, Q, Q', a, w, ⟨t, h, h1, h2⟩, hq => ⟨t, h, fun e => zR (c := x) (h1 e) hq, fun e => zR (c := y) (h2 e) hq⟩
 | .loop x, Q, Q', a, w, ⟨I, n, h0, h⟩, hq => ⟨I, n, h0, fun n a w hi => zR (c := x) (h n a w hi) fun e a w q => by
   cases e <;> first | exact q | exact hq _ _ _ q⟩
 | .region _ ops false, _, _, _, _, h, hq => yM (fun a w q => hq _ _ _ q) h
 | .region _ ops true, _, _, _, _, h, hq => Zo (fun a w q => hq _ _ _ q) h
theorem Zw (hm : P.follows .mixedOrders = true) : ∀ {c : Code} {Q : Exit → Act → World → Prop} {a : Act} {w : World}, dwp P c Q a w → c.wp P Q a w
 | .skip, _, _, _, h => wp_skip h
 | .label _, _, _, _, h => wp_label h
 | .exit _, _, _, _, h => wp_exit h
 | .ret, _, _, _, h => wp_ret h
 | .seq x y, Q, a, w, h => wp_seq (Zw hm (zR (c := x) h fun e a w q => by cases e <;> first | exact Zw hm (c := y) q | exact q))
 | .block id x, Q, a, w, h => wp_block (Zw hm (c := x) h)
 | .cond c x y, Q, a, w, ⟨t, h, h1, h2⟩ => by
  cases t with
  | true => exact wp_cond_true h (Zw hm (c := x) (h1 rfl))
  | false => exact wp_cond_false h (Zw hm (c := y) (h2 rfl))
 | .loop x, Q, a, w, ⟨I, n, h0, h⟩ => wp_loop_ghost I n h0 fun n a w hi => Zw hm (c := x) (h n a w hi)
 | .region _ ops false, Q, _, _, h => wp_mono (wp_region_list h) fun e a w q => by cases e <;> first | exact q | exact q.elim
 | .region _ ops true, Q, _, _, h => wp_mono (wp_region_any hm h) fun e a w q => by cases e <;> first | exact q | exact q.elim

/-! in a round -/
def Oper.tameB (o : Oper) : Bool := match o.op with | .defer _ => false | _ => true
theorem zfg {o : Oper} (h : Oper.tameB o = true) : ∀ c, o.op ≠ .defer c := fun c e => by unfold Oper.tameB at h; rw [e] at h; cases h
def zet : Code → Bool
 | .seq x y => zet x && zet y
 | .block _ x => zet x
 | .cond _ x y => zet x && zet y
 | .loop x => zet x
 | .region _ ops _ => ops.toList.all Oper.tameB
 | _ => true
section
variable {l n : Nat}
theorem zb1 {o : Oper} (hd : Oper.tameB o = true) {a : Act} {w : World} {K : Act → World → Prop} {Q : Exit → Act → World → Prop} (h : o.wp P a w K Q) : o.wpIn (Fence.wide.inRound l) n P a w K Q := by
 refine ⟨fun _ _ => trivial, ?_⟩
 rw [show (Fence.wide.inRound l).round = some l from rfl, Oper.semAt_some l _ _ (zfg hd)]
 unfold Oper.wp at h
 generalize (execOp a.eval o).run P w = r at *
 cases r with
 | ok nx w' =>
  cases nx with
  | value v => exact h
  | skip => exact h
  | defer d => exact h
  | enter f args => exact ⟨fun h => by simp [Fence.inRound, Fence.wide] at h, CallsIn.inRound l (callsIn_wide.2 h)⟩
  | row row args => exact ⟨fun h => by simp [Fence.inRound, Fence.wide] at h, fun c cs _ => let ⟨v, w', r, s⟩ := h c cs; ⟨v, w', r, stepsIn_wide.2 s⟩⟩
  | round => exact h.elim
  | _ => exact h.elim
 | halt x w' => cases x <;> first | exact h | exact h.elim
theorem Ve {ops : Array Oper} {K : Act → World → Prop} : ∀ {L : List Oper} {a : Act} {w : World}, L.all Oper.tameB = true → wpList P ops (ZY K) L a w → wpListIn (Fence.wide.inRound l) n P ops (ZY K) L a w
 | [], a, w, _, hh => hh
 | o :: L, a, w, ht, hh => by
  rw [List.all_cons, Bool.and_eq_true] at ht
  unfold wpList at hh
  unfold wpListIn
  split
  ·rename_i hw
   rw [if_pos hw] at hh
   rcases hh with hh | hh
   ·exact zb1 ht.1 (Oper.wp_mono (fun a w q => Ve ht.2 q) hh)
   ·exact absurd hh.2 (yJ _)
  ·rename_i hw
   rw [if_neg hw] at hh
   exact ⟨fun _ _ => trivial, Ve ht.2 hh⟩
theorem XL {ops : Array Oper} (ht : ops.toList.all Oper.tameB = true) {K : Act → World → Prop} : ∀ {fuel : Nat} {listed : Array Bool} {a : Act} {w : World}, wpAny P .any ops (ZY K) fuel listed a w → wpAnyIn (Fence.wide.inRound l) n P .any ops (ZY K) fuel listed a w
 | 0, _, a, w, hh => hh
 | fuel + 1, listed, a, w, hh => ⟨hh.1, fun i hi => by
  have h := hh.2 i hi
  unfold wpOp at h
  unfold wpOpIn
  split
  ·rename_i ho; rw [ho] at h; exact XL ht h
  ·rename_i o ho
   rw [ho] at h
   dsimp only at h
   have hto : Oper.tameB o = true := List.all_eq_true.1 ht o (by
    have := List.mem_of_getElem? (l := ops.toList) (i := i) (a := o) (by simpa using ho)
    exact this)
   split
   ·rename_i hw
    rw [if_pos hw] at h
    rcases h with h | h
    ·exact zb1 hto (Oper.wp_mono (fun a w q => XL ht q) h)
    ·exact absurd h.2 (yJ _)
   ·rename_i hw
    rw [if_neg hw] at h
    exact ⟨fun _ _ => trivial, XL ht h⟩⟩
theorem ZI {F : Fence} {Q : Exit → Act → World → Prop} {a : Act} {w : World} {c : Code} (I : Nat → Act → World → Prop) (n₀ : Nat) (h₀ : I n₀ a w)
  (round : ∀ n a w, I n a w → c.wpIn F l P (Exit.then (fun a' w' => ∃ n', n' < n ∧ I n' a' w') Q) a w) : (Code.loop c).wpIn F l P Q a w := by
 refine wpIn_loop (fun a w => ∃ n, I n a w) (fun a w => leastOf (fun n => I n a w)) ⟨n₀, h₀⟩ ?_
 intro a w hI
 refine wpIn_mono (round _ a w (leastOf_spec hI).1) ?_
 intro e a' w' hq
 cases e with
 | normal =>
  obtain ⟨n', hlt, hI'⟩ := hq
  exact show (∃ n, I n a' w') ∧ leastOf (fun n => I n a' w') < leastOf (fun n => I n a w) from ⟨⟨n', hI'⟩, Nat.lt_of_le_of_lt ((leastOf_spec ⟨n', hI'⟩).2 n' hI') hlt⟩
 | _ => exact hq
theorem Xu (hm : P.follows .mixedOrders = true) : ∀ {c : Code} {Q : Exit → Act → World → Prop} {a : Act} {w : World}, zet c = true → dwp P c Q a w → c.wpIn (Fence.wide.inRound l) n P Q a w
 | .skip, _, _, _, _, h => wpIn_skip h
 | .label _, _, _, _, _, h => wpIn_label h
 | .exit _, _, _, _, _, h => wpIn_exit h
 | .ret, _, _, _, _, h => wpIn_ret h
 | .seq x y, Q, a, w, ht, h => by
  simp only [zet, Bool.and_eq_true] at ht
  exact wpIn_seq (Xu hm ht.1 (zR (c := x) h fun e a w q => by cases e <;> first | exact Xu hm (c := y) ht.2 q | exact q))
 | .block id x, Q, a, w, ht, h => wpIn_block (Xu hm (c := x) ht h)
 | .cond c x y, Q, a, w, ht, ⟨t, h, h1, h2⟩ => by
  simp only [zet, Bool.and_eq_true] at ht
  cases t with
  | true => exact wpIn_cond_true h (Xu hm (c := x) ht.1 (h1 rfl))
  | false => exact wpIn_cond_false h (Xu hm (c := y) ht.2 (h2 rfl))
 | .loop x, Q, a, w, ht, ⟨I, n, h0, h⟩ => ZI I n h0 fun n a w hi => Xu hm (c := x) ht (h n a w hi)
 | .region _ ops false, Q, _, _, ht, h => wpIn_mono (wpIn_region_list (Ve ht h)) fun e a w q => by cases e <;> first | exact q | exact q.elim
 | .region _ ops true, Q, _, _, ht, h => wpIn_mono (wpIn_region_any hm (XL ht h)) fun e a w q => by cases e <;> first | exact q | exact q.elim
end
/-! the slots that the code does not write -/
def VH : Code → Nat → Bool
 | .seq x y, k => VH x k && VH y k
 | .block _ x, k => VH x k
 | .cond _ x y, k => VH x k && VH y k
 | .loop x, k => VH x k
 | .region _ ops _, k => ops.toList.all fun o => o.dst != some k
 | _, _ => true
def zeC (a : Act) (nw : Nat → Bool) (K : Act → World → Prop) : Act → World → Prop := fun a' w' => K a' w' ∧ ∀ k, nw k = true → a'.tmps.getD k undef = a.tmps.getD k undef
theorem ZP {a : Act} {dst : Option Nat} {v : Value} {k : Nat} (h : dst ≠ some k) : (Act.put a dst v).tmps.getD k undef = a.tmps.getD k undef := by
 cases dst with
 | none => rfl
 | some d =>
  have hd : d ≠ k := fun e => h (by rw [e])
  show (a.tmps.setIfInBounds d v).getD k undef = _
  rw [Array.getD_eq_getD_getElem?, Array.getD_eq_getD_getElem?, Array.getElem?_setIfInBounds_ne hd]
theorem VI {o : Oper} {a : Act} {w : World} {K G G' : Act → World → Prop} (h : o.wp P a w K (ZY G)) : o.wp P a w (zeC a (fun k => o.dst != some k) K) (ZY G') := by
 unfold Oper.wp at *
 have key : ∀ v w', K (a.put o.dst v) w' → zeC a (fun k => o.dst != some k) K (a.put o.dst v) w' := fun v w' hk => ⟨hk, fun k hk => ZP (by simpa using hk)⟩
 generalize (execOp a.eval o).run P w = r at *
 cases r with
 | ok n w' =>
  cases n with
  | value v => exact key v w' h
  | skip => exact key _ w' h
  | defer d => exact ⟨h, fun k hk => ZP (a := { a with defers := d :: a.defers }) (by simpa using hk)⟩
  | enter f args => exact Calls.mono h (fun e w'' he => by cases e <;> first | exact key _ _ he | exact he.elim | (obtain ⟨_, _, q⟩ := he; exact q.elim))
  | row row args => exact Rows.mono h (fun _ _ he => key _ _ he)
  | _ => exact h.elim
 | halt x w' => cases x <;> exact h.elim
theorem zeC.trans {a a1 : Act} {w : World} {n1 n2 n3 : Nat → Bool} {K : Act → World → Prop} {a' : Act} (h : zeC a1 n2 K a' w) (h1 : ∀ k, n1 k = true → a1.tmps.getD k undef = a.tmps.getD k undef) (hn : ∀ k, n3 k = true → n1 k = true ∧ n2 k = true) : zeC a n3 K a' w :=
 ⟨h.1, fun k hk => (h.2 k (hn k hk).2).trans (h1 k (hn k hk).1)⟩
theorem Zp {ops : Array Oper} {K : Act → World → Prop} : ∀ {L : List Oper} {a : Act} {w : World}, wpList P ops (ZY K) L a w → wpList P ops (ZY (zeC a (fun k => L.all fun o => o.dst != some k) K)) L a w
 | [], a, w, hh => ⟨hh, fun k _ => rfl⟩
 | o :: L, a, w, hh => by
  have hn : ∀ k, ((o :: L).all fun o => o.dst != some k) = true → (o.dst != some k) = true ∧ (L.all fun o => o.dst != some k) = true := fun k hk => by rw [List.all_cons, Bool.and_eq_true] at hk; exact hk
  unfold wpList at hh ⊢
  split
  ·rename_i hw
   rw [if_pos hw] at hh
   rcases hh with hh | hh
   ·exact .inl (Oper.wp_mono (fun a1 w1 q => yM (fun a w q2 => q2.trans q.2 hn) (Zp q.1)) (VI hh))
   ·exact absurd hh.2 (yJ _)
  ·rename_i hw
   rw [if_neg hw] at hh
   exact yM (fun a1 w1 q => q.trans (fun k hk => ZP (by simpa using hk)) hn) (Zp hh)
theorem ZT {ops : Array Oper} {K : Act → World → Prop} : ∀ {fuel : Nat} {listed : Array Bool} {a : Act} {w : World}, wpAny P .any ops (ZY K) fuel listed a w → wpAny P .any ops (ZY (zeC a (fun k => ops.toList.all fun o => o.dst != some k) K)) fuel listed a w
 | 0, _, a, w, hh => ⟨hh.1, hh.2, fun k _ => rfl⟩
 | fuel + 1, listed, a, w, hh => ⟨fun e => ⟨hh.1 e, fun k _ => rfl⟩, fun i hi => by
  have h := hh.2 i hi
  unfold wpOp at h ⊢
  split
  ·rename_i ho; rw [ho] at h; exact ZT h
  ·rename_i o ho
   rw [ho] at h
   dsimp only at h
   have hn : ∀ k, (ops.toList.all fun o => o.dst != some k) = true → (o.dst != some k) = true ∧ (ops.toList.all fun o => o.dst != some k) = true := fun k hk =>
    ⟨List.all_eq_true.1 hk o (List.mem_of_getElem? (l := ops.toList) (i := i) (by simpa using ho)), hk⟩
   split
   ·rename_i hw
    rw [if_pos hw] at h
    rcases h with h | h
    ·exact .inl (Oper.wp_mono (fun a1 w1 q => Zo (fun a w q2 => q2.trans q.2 hn) (ZT q.1)) (VI h))
    ·exact absurd h.2 (yJ _)
   ·rename_i hw
    rw [if_neg hw] at h
    exact Zo (fun a1 w1 q => q.trans (fun k hk => ZP (by simpa using hk)) hn) (ZT h)⟩
def zgJ (a : Act) (nw : Nat → Bool) (Q : Exit → Act → World → Prop) : Exit → Act → World → Prop := fun e => zeC a nw (Q e)
theorem xl : ∀ {c : Code} {Q : Exit → Act → World → Prop} {a : Act} {w : World}, dwp P c Q a w → dwp P c (zgJ a (VH c) Q) a w
 | .skip, _, _, _, h => ⟨h, fun _ _ => rfl⟩
 | .label _, _, _, _, h => ⟨h, fun _ _ => rfl⟩
 | .exit _, _, _, _, h => ⟨h, fun _ _ => rfl⟩
 | .ret, _, _, _, h => ⟨h, fun _ _ => rfl⟩
 | .seq x y, Q, a, w, h => zR (c := x) (xl (c := x) h) fun e a1 w1 q => by
   have hn : ∀ k, VH (.seq x y) k = true → VH x k = true ∧ VH y k = true := fun k hk => by simpa [VH] using hk
   cases e with
   | normal => exact zR (c := y) (xl (c := y) q.1) fun e a2 w2 q2 => zeC.trans q2 q.2 hn
   | _ => exact ⟨q.1, fun k hk => q.2 k (hn k hk).1⟩
 | .block id x, Q, a, w, h => zR (c := x) (xl (c := x) h) fun e a1 w1 q => by
   obtain ⟨q, q2⟩ := q
   cases e with
   | exit id' =>
    simp only [Exit.inBlock] at q ⊢
    split
    ·rename_i e; rw [if_pos e] at q; exact ⟨q, q2⟩
    ·rename_i e; rw [if_neg e] at q; exact ⟨q, q2⟩
   | _ => exact ⟨q, q2⟩
 | .cond c x y, Q, a, w, ⟨t, h, h1, h2⟩ => by
  have hn : ∀ k, VH (.cond c x y) k = true → VH x k = true ∧ VH y k = true := fun k hk => by simpa [VH] using hk
  exact ⟨t, h, fun e => zR (c := x) (xl (c := x) (h1 e)) fun e a w q => ⟨q.1, fun k hk => q.2 k (hn k hk).1⟩, fun e => zR (c := y) (xl (c := y) (h2 e)) fun e a w q => ⟨q.1, fun k hk => q.2 k (hn k hk).2⟩⟩
 | .loop x, Q, a, w, ⟨I, n, h0, h⟩ => ⟨fun n a' w' => I n a' w' ∧ ∀ k, VH x k = true → a'.tmps.getD k undef = a.tmps.getD k undef, n, ⟨h0, fun _ _ => rfl⟩, fun n a1 w1 hi => by
   refine zR (c := x) (xl (c := x) (h n a1 w1 hi.1)) fun e a2 w2 q => ?_
   obtain ⟨q, q2⟩ := q
   have hq2 : ∀ k, VH x k = true → a2.tmps.getD k undef = a.tmps.getD k undef := fun k hk => (q2 k hk).trans (hi.2 k hk)
   cases e with
   | normal => obtain ⟨m, h1, h2⟩ := q; exact ⟨m, h1, h2, hq2⟩
   | _ => exact ⟨q, hq2⟩⟩
 | .region _ ops false, Q, a, w, h => Zp h
 | .region _ ops true, Q, a, w, h => ZT (a := a) h
end
end Go.Proofs.Ythjplkjpehdpfaa
