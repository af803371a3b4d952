/-
  A region that draws its order and only reads: what nothing orders is apart whatever is read there, so one look at the text is enough.
-/
import Derived.Test.YtokmanfcndelfaaZBxxx
namespace Go.Proofs.Ytokmanfcndelfaa
set_option linter.unusedVariables false
open Go.RowKit

def zea (l : List Oper) : Bool := zbb l && (List.range l.length).all fun i => (List.range i).all fun j => ((zdF l []).getD i []).contains j || (l.getD j default).apart l.toArray (l.getD i default)
def zjt (tr : List Rec) : Bool := tr.all fun r => r.wr.isEmpty

theorem WX {c : Ctx} {l : List Oper} {s s' : FSt} {tr : List Rec} (hst : zea l = true) (hx : zfU c l.toArray s l tr s') (hs : zjt tr = true) : Wq l.toArray tr = true := by
 obtain ⟨hlen, _, hrec⟩ := hx.at
 unfold zea at hst
 rw [Bool.and_eq_true] at hst
 unfold Wq
 rw [Bool.and_eq_true]
 refine ⟨hst.1, ?_⟩
 unfold zdm
 rw [List.all_eq_true]
 intro i hi
 rw [List.all_eq_true]
 intro j hj
 have hi2 : i < l.length := by rw [← hlen]; exact List.mem_range.1 hi
 have hj2 : j < i := List.mem_range.1 hj
 have h := List.all_eq_true.1 (List.all_eq_true.1 hst.2 i (List.mem_range.2 hi2)) j hj
 rw [Bool.or_eq_true] at h ⊢
 refine h.imp id (fun h => ?_)
 have key : ∀ k, k < l.length → (tr.getD k default).wr = [] := fun k hk => by
  have hk' : k < tr.length := by omega
  have : tr.getD k default ∈ tr := by
   rw [List.getD_eq_getElem?_getD, List.getElem?_eq_getElem hk', Option.getD_some]; exact List.getElem_mem hk'
  have := List.all_eq_true.1 hs _ this
  exact List.isEmpty_iff.1 this
 unfold ZN
 rw [key i hi2, key j (by omega), (hrec i hi2).1, (hrec j (by omega)).1, h]
 rfl
/-! the same look, reckoned on numbers -/
def Vn : List Nat → Nat
 | [] => 0
 | t :: l => (1 <<< t) ||| Vn l
theorem We {d : Nat} : ∀ {l : List Nat}, d ∈ l → (Vn l).testBit d = true
 | t :: l, h => by
  unfold Vn
  rw [Nat.testBit_or, Bool.or_eq_true]
  rcases List.mem_cons.1 h with rfl | h
  ·left; rw [Nat.testBit_shiftLeft]; simp
  ·exact .inr (We h)
def ziE (o : Oper) : Nat := match o.dst with | some d => 1 <<< d | none => 0
theorem Vs {o : Oper} {d : Nat} (h : o.dst = some d) : (ziE o).testBit d = true := by
 unfold ziE; rw [h]; dsimp only; rw [Nat.testBit_shiftLeft]; simp
def frc (n : Nat) (k : Nat → Bool) : Bool := match n with | 0 => k 0 | m + 1 => k (m + 1)
theorem zgh (n : Nat) (k : Nat → Bool) : frc n k = k n := by cases n <;> rfl
def zhV (A D L : Nat) : Nat → List (Nat × Nat) → Bool
 | _, [] => true
 | j, p :: rest => (A.testBit (j - 1) || (Nat.beq (p.1 &&& (L ||| D)) 0 && Nat.beq (D &&& p.2) 0)) && zhV A D L (j - 1) rest
def zi1 (i : Nat) (acc : List Nat) : List Edge → Nat
 | [] => 0
 | e :: es => (if Region.binds .any e then (1 <<< e.on) ||| acc.getD (i - 1 - e.on) 0 else 0) ||| zi1 i acc es
def zeD (i : Nat) : List Edge → Bool
 | [] => true
 | e :: es => (!Region.binds .any e || Nat.blt e.on i) && zeD i es
def zdU (ops : Array Oper) : List Oper → Nat → List (Nat × Nat) → List Nat → Bool
 | [], _, _, _ => true
 | o :: l, i, prev, acc => frc (ziE o) fun D => frc (Vn (o.looksAt ops)) fun L => frc (zi1 i acc o.after.toList) fun A => zeD i o.after.toList && zhV A D L i prev && zdU ops l (i + 1) ((D, L) :: prev) (A :: acc)
def zdV (l : List Oper) : Bool := zdU l.toArray l 0 [] []

theorem zed {A D L : Nat} : ∀ {prev : List (Nat × Nat)} {j : Nat}, prev.length = j → zhV A D L j prev = true → ∀ x, x < j → A.testBit x = true ∨ ((prev.getD (j - 1 - x) (0, 0)).1 &&& (L ||| D) = 0 ∧ D &&& (prev.getD (j - 1 - x) (0, 0)).2 = 0)
 | [], j, hl, _, x, hx => by simp at hl; omega
 | p :: rest, j, hl, h, x, hx => by
  unfold zhV at h
  rw [Bool.and_eq_true] at h
  rcases Nat.eq_or_lt_of_le (show x ≤ j - 1 by omega) with e | hlt
  ·subst e
   rw [Nat.sub_self, List.getD_cons_zero]
   rw [Bool.or_eq_true, Bool.and_eq_true] at h
   exact h.1.imp id fun h => ⟨Nat.eq_of_beq_eq_true h.1, Nat.eq_of_beq_eq_true h.2⟩
  ·have := zed (by simp at hl; omega) h.2 x hlt
   rwa [show j - 1 - x = (j - 1 - 1 - x) + 1 by omega, List.getD_cons_succ]
theorem zf0 {i : Nat} {accM : List Nat} {acc : List (List Nat)} (hl : acc.length = i) (hm : ∀ k, k < i → ∀ b, (accM.getD (i - 1 - k) 0).testBit b = true → b ∈ acc.getD k []) : ∀ (es : List Edge), zeD i es = true → ∀ b, (zi1 i accM es).testBit b = true →
  b ∈ es.flatMap fun e => if Region.binds .any e then e.on :: acc.getD e.on [] else []
 | [], _, b, h => by simp [zi1] at h
 | e :: es, he, b, h => by
  unfold zeD at he
  rw [Bool.and_eq_true] at he
  unfold zi1 at h
  rw [Nat.testBit_or, Bool.or_eq_true] at h
  rw [List.flatMap_cons, List.mem_append]
  rcases h with h | h
  ·left
   by_cases hb : Region.binds .any e = true
   ·rw [if_pos hb] at h ⊢
    rw [Nat.testBit_or, Bool.or_eq_true] at h
    rcases h with h | h
    ·rw [Nat.one_shiftLeft, Nat.testBit_two_pow] at h
     have : e.on = b := of_decide_eq_true h
     rw [this]
     exact List.mem_cons_self
    ·have h1 := he.1
     rw [hb] at h1
     have h1 : e.on < i := by simpa using h1
     exact List.mem_cons_of_mem _ (hm _ h1 b h)
   ·rw [if_neg hb] at h; simp at h
  ·exact .inr (zf0 hl hm es he.2 b h)
theorem zdQ {i : Nat} : ∀ {es : List Edge}, zeD i es = true → ∀ e ∈ es, (!Region.binds .any e || decide (e.on < i)) = true
 | e :: es, h, e', he => by
  unfold zeD at h
  rw [Bool.and_eq_true] at h
  rcases List.mem_cons.1 he with rfl | he
  ·have := h.1
   rw [Bool.or_eq_true] at this ⊢
   exact this.imp id fun h => decide_eq_true (Nat.le_of_ble_eq_true h)
  ·exact zdQ h.2 e' he
theorem zf1 {a b d : Nat} (h : a &&& b = 0) (ha : a.testBit d = true) : b.testBit d = false := by
 have : (a &&& b).testBit d = false := by rw [h]; exact Nat.zero_testBit d
 rw [Nat.testBit_and, ha, Bool.true_and] at this
 exact this
theorem zeu {ops : Array Oper} {x y : Oper} (h1 : ziE x &&& (Vn (y.looksAt ops) ||| ziE y) = 0) (h2 : ziE y &&& Vn (x.looksAt ops) = 0) : x.apart ops y = true := by
 unfold Oper.apart
 rw [Bool.and_eq_true]
 constructor
 ·cases hd : x.dst with
  | none => rfl
  | some d =>
   have := zf1 h1 (Vs hd)
   rw [Nat.testBit_or, Bool.or_eq_false_iff] at this
   dsimp only
   rw [Bool.and_eq_true]
   constructor
   ·cases hc : (y.looksAt ops).contains d with
    | false => rfl
    | true =>
     have := this.1
     rw [We (by simpa using hc)] at this; cases this
   ·simp only [bne_iff_ne, ne_eq]
    intro e
    have := this.2
    rw [Vs e] at this; cases this
 ·cases hd : y.dst with
  | none => rfl
  | some d =>
   have := zf1 h2 (Vs hd)
   dsimp only
   cases hc : (x.looksAt ops).contains d with
   | false => rfl
   | true => rw [We (by simpa using hc)] at this; cases this
theorem zbO {ops : Array Oper} : ∀ {l : List Oper} {first : List Oper} {i : Nat} {prev : List (Nat × Nat)} {accM : List Nat} {acc : List (List Nat)}, first.length = i → prev.length = i → accM.length = i → acc.length = i →
  (∀ j, j < i → prev.getD (i - 1 - j) (0, 0) = (ziE (first.getD j default), Vn ((first.getD j default).looksAt ops))) → (∀ k, k < i → ∀ b, (accM.getD (i - 1 - k) 0).testBit b = true → b ∈ acc.getD k []) →
  zdU ops l i prev accM = true → ∀ k, k < l.length → (∀ e ∈ (l.getD k default).after.toList, (!Region.binds .any e || decide (e.on < i + k)) = true) ∧ ∀ j, j < i + k → j ∈ (zdF l acc).getD (i + k) [] ∨ ((first ++ l).getD j default).apart ops (l.getD k default) = true
 | [], _, _, _, _, _, _, _, _, _, _, _, _, k, hk => by simp at hk
 | o :: l, first, i, prev, accM, acc, hf, hp, ha, hc, h1, h2, h, k, hk => by
  unfold zdU at h
  rw [zgh, zgh, zgh, Bool.and_eq_true, Bool.and_eq_true] at h
  obtain ⟨⟨he, hpr⟩, hrest⟩ := h
  have hanc : ∀ b, (zi1 i accM o.after.toList).testBit b = true → b ∈ o.after.toList.flatMap fun e => if Region.binds .any e then e.on :: acc.getD e.on [] else [] := zf0 hc h2 _ he
  cases k with
  | zero =>
   refine ⟨fun e hee => zdQ he e (by simpa using hee), fun j hj => ?_⟩
   rw [Nat.add_zero] at hj ⊢
   rw [List.getD_cons_zero]
   rcases zed hp hpr j hj with q | ⟨q1, q2⟩
   ·left
    rw [zdF, zdG l _ i (by simp; omega), List.getD_eq_getElem?_getD, List.getElem?_append_right (by omega), hc, Nat.sub_self]
    simpa using hanc j q
   ·right
    rw [h1 j hj] at q1 q2
    rw [List.getD_eq_getElem?_getD, List.getElem?_append_left (by omega), ← List.getD_eq_getElem?_getD]
    exact zeu q1 q2
  | succ k =>
   have := zbO (first := first ++ [o]) (i := i + 1) (acc := acc ++ [o.after.toList.flatMap fun e => if Region.binds .any e then e.on :: acc.getD e.on [] else []]) (by simp; omega) (by simp; omega) (by simp; omega) (by simp; omega) (fun j hj => ?_) (fun q hq b hb => ?_) hrest k (by simpa using hk)
   ·rw [show i + 1 + k = i + (k + 1) by omega] at this
    rw [List.getD_cons_succ, zdF]
    rw [List.append_assoc] at this
    exact this
   ·rcases Nat.eq_or_lt_of_le (show j ≤ i by omega) with e | hlt
    ·subst e
     rw [Nat.add_sub_cancel, Nat.sub_self, List.getD_cons_zero]
     have : (first ++ [o]).getD j default = o := by rw [List.getD_eq_getElem?_getD, List.getElem?_append_right (by omega), hf, Nat.sub_self]; rfl
     rw [this]
    ·rw [show i + 1 - 1 - j = (i - 1 - j) + 1 by omega, List.getD_cons_succ, h1 j hlt]
     have : (first ++ [o]).getD j default = first.getD j default := by rw [List.getD_eq_getElem?_getD, List.getElem?_append_left (by omega), ← List.getD_eq_getElem?_getD]
     rw [this]
   ·rcases Nat.eq_or_lt_of_le (show q ≤ i by omega) with e | hlt
    ·subst e
     rw [Nat.add_sub_cancel, Nat.sub_self, List.getD_cons_zero] at hb
     rw [List.getD_eq_getElem?_getD, List.getElem?_append_right (by omega), hc, Nat.sub_self]
     simpa using hanc b hb
    ·rw [show i + 1 - 1 - q = (i - 1 - q) + 1 by omega, List.getD_cons_succ] at hb
     rw [List.getD_eq_getElem?_getD, List.getElem?_append_left (by omega), ← List.getD_eq_getElem?_getD]
     exact h2 q hlt b hb
theorem zaa {l : List Oper} (h : zdV l = true) : zea l = true := by
 have key := zbO (first := []) (acc := []) (i := 0) rfl rfl rfl rfl (fun j hj => by omega) (fun j hj => by omega) h
 unfold zea
 rw [Bool.and_eq_true]
 constructor
 ·unfold zbb
  rw [List.all_eq_true]
  intro i hi
  rw [List.all_eq_true]
  intro e he
  have := (key i (List.mem_range.1 hi)).1 e he
  rwa [Nat.zero_add] at this
 ·rw [List.all_eq_true]
  intro i hi
  rw [List.all_eq_true]
  intro j hj
  have := (key i (List.mem_range.1 hi)).2 j (by rw [Nat.zero_add]; exact List.mem_range.1 hj)
  rw [Nat.zero_add, List.nil_append] at this
  rw [Bool.or_eq_true]
  exact this.imp (fun h => by simpa using h) id
theorem FW.drawQ {c : Ctx} {Q : Exit → FSt → Prop} {s : FSt} {id : Nat} {l : List Oper} (hst : zdV l = true) (h : zL c l.toArray l s [] fun s' tr => zjt tr = true ∧ Q .normal s') : FW c (.region id l.toArray true) Q s := by
 obtain ⟨tr, s', hx, hs, hq⟩ := h
 exact FW.draw ⟨tr, s', hx, WX (zaa hst) hx (by simpa using hs), hq⟩
end Go.Proofs.Ytokmanfcndelfaa
