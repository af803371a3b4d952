/-
  Some texts as one: FmOnce12, BentH.
-/
import Derived.Test.YtbeebjdnapkhhaaZH
/-
 simproofref21.Bent, at plain values.
-/
namespace Go.Proofs.Ytbeebjdnapkhhaa
set_option linter.unusedVariables false
open Go.RowKit

end Go.Proofs.Ytbeebjdnapkhhaa
/-
 Generated histories of queues, bent: they stay histories, with small fields.
-/
namespace Go.Proofs.Ytbeebjdnapkhhaa
set_option linter.unusedVariables false
open Go.RowKit

/-! ### the values in a generated history are small -/
structure zku (s : HS) : Prop where
 rs : ∀ p, p < 3 → 0 ≤ nth s.rs p ∧ nth s.rs p < s.fresh
 now : ∀ c, c < 2 → 0 ≤ nth s.now c ∧ nth s.now c < s.fresh
 qs : ∀ c, c < 2 → ∀ x ∈ nth s.qs c, 0 ≤ x ∧ x < s.fresh
 res : ∀ j, j < s.out.length → 0 ≤ (nth s.out j).res ∧ (nth s.out j).res < s.fresh
theorem zaL {l : List Int} {n i : Nat} {v lo hi : Int} (h : ∀ p, p < n → lo ≤ nth l p ∧ nth l p < hi) (hv : lo ≤ v ∧ v < hi) : ∀ p, p < n → lo ≤ nth (l.set i v) p ∧ nth (l.set i v) p < hi := fun p hp => by
 by_cases e : i = p
 ·subst e
  by_cases hl : i < l.length
  ·rw [zh hl]; exact hv
  ·rw [List.set_eq_of_length_le (by omega)]; exact h i hp
 ·rw [zf e]; exact h p hp
theorem zku.step {q : Bool} {i : Nat} {s : HS} (hI : Xp q i s) (h : zku s) (x : Int) : zku (WM q x s) := by
 unfold WM
 have hn : 0 ≤ zX x 1000000 := YF (by decide)
 have hp : (zX x 1000000 % 3).toNat < 3 := by omega
 generalize (zX x 1000000 % 3).toNat = p at hp
 generalize zX x 1000000 / 3 = m
 have h1 := hI.f1
 split
 ·have hfr : s.fresh ≤ (xb q m p s).fresh := by
   show s.fresh ≤ if hsW (xu q m) = true then s.fresh + 1 else s.fresh
   split <;> omega
  refine ⟨fun p hp => ?_, fun c hc => ?_, fun c hc x hx => ?_, fun j hj => ?_⟩
  ·have := h.rs p hp; exact ⟨this.1, by show nth s.rs p < _; omega⟩
  ·have := h.now c hc; exact ⟨this.1, by show nth s.now c < _; omega⟩
  ·have := h.qs c hc x hx; exact ⟨this.1, by omega⟩
  ·show 0 ≤ (nth (s.out ++ [ye q m p s]) j).res ∧ (nth (s.out ++ [ye q m p s]) j).res < _
   have hj' : j < s.out.length + 1 := by simpa [xb] using hj
   rcases Nat.lt_or_ge j s.out.length with h2 | h2
   ·rw [yM h2]
    have := h.res j h2
    exact ⟨this.1, by omega⟩
   ·have : j = s.out.length := by omega
    subst this
    rw [xd]
    exact ⟨Int.le_refl _, by show (0 : Int) < _; omega⟩
 ·rename_i hop
  have hop : 0 ≤ nth s.op p := by omega
  obtain ⟨hj0, _, _⟩ := hI.opn p hp hop
  have hO := hI.ops _ hj0
  have hE : zku (zW p s) := by
   unfold zW
   split
   ·exact h
   ·generalize nth s.out (nth s.op p).toNat = o at hO
    have hkey := hO.key
    have harg := hO.arg
    have hf0 : (0 : Int) < (s.fresh : Int) := by omega
    have hk2 : o.key.toNat < 2 := by omega
    unfold Zn
    split
    ·exact ⟨zaL h.rs ⟨Int.le_refl _, hf0⟩, zaL h.now harg, h.qs, h.res⟩
    ·split
     ·exact ⟨zaL h.rs (h.now _ hk2), h.now, h.qs, h.res⟩
     ·split
      ·refine ⟨zaL h.rs ⟨Int.le_refl _, hf0⟩, h.now, fun c hc x hx => ?_, h.res⟩
       have hx' : x ∈ nth (s.qs.set o.key.toNat (nth s.qs o.key.toNat ++ [o.arg])) c := hx
       by_cases e : o.key.toNat = c
       ·subst e
        rw [zh (by rw [hI.q2]; omega)] at hx'
        rcases List.mem_append.1 hx' with h3 | h3
        ·exact h.qs _ hc x h3
        ·rw [List.mem_singleton] at h3; subst h3; exact harg
       ·rw [zf e] at hx'; exact h.qs c hc x hx'
      ·split
       ·exact ⟨zaL h.rs ⟨Int.le_refl _, hf0⟩, h.now, h.qs, h.res⟩
       ·rename_i y r hq
        refine ⟨zaL h.rs (h.qs _ hk2 y (by rw [hq]; exact List.mem_cons_self)), h.now, fun c hc x hx => ?_, h.res⟩
        have hx' : x ∈ nth (s.qs.set o.key.toNat r) c := hx
        by_cases e : o.key.toNat = c
        ·subst e
         rw [zh (by rw [hI.q2]; omega)] at hx'
         exact h.qs _ hc x (by rw [hq]; exact List.mem_cons_of_mem _ hx')
        ·rw [zf e] at hx'; exact h.qs c hc x hx'
  unfold zf2
  split
  ·exact ⟨hE.rs, hE.now, hE.qs, hE.res⟩
  ·split
   ·refine ⟨hE.rs, hE.now, hE.qs, fun j hj => ?_⟩
    have hout : (zT p (zW p s)).out = (zW p s).out.set (nth (zW p s).op p).toNat { nth (zW p s).out (nth (zW p s).op p).toNat with done := true, res := nth (zW p s).rs p, ret := ((zW p s).time : Int) } := rfl
    have hj' : j < (zW p s).out.length := by rw [hout] at hj; simpa using hj
    show 0 ≤ (nth (zT p (zW p s)).out j).res ∧ (nth (zT p (zW p s)).out j).res < (zW p s).fresh
    rw [hout]
    by_cases e : (nth (zW p s).op p).toNat = j
    ·subst e
     rw [zh hj']; exact hE.rs p hp
    ·rw [zf e]; exact hE.res j hj'
   ·exact hE
structure OpB (q : Bool) (o : OpV) : Prop where
 k : (q = true ∧ (o.k = 3 ∨ o.k = 4)) ∨ (q = false ∧ (o.k = 0 ∨ o.k = 1))
 key : 0 ≤ o.key ∧ o.key ≤ 1
 arg : 0 ≤ o.arg ∧ o.arg ≤ 60
 res : 0 ≤ o.res ∧ o.res ≤ 60
 p : 0 ≤ o.p ∧ o.p ≤ 200
 call : 0 ≤ o.call ∧ o.call ≤ 60
 ret : 0 ≤ o.ret ∧ o.ret ≤ 60
structure zkx (q : Bool) (l : List OpV) : Prop where
 len : l.length ≤ 60
 ops : ∀ o ∈ l, OpB q o
 wf : WFH l
theorem zkx.set {q : Bool} {l : List OpV} (h : zkx q l) {i : Nat} (hi : i < l.length) {o : OpV} (hb : OpB q o) (hf : o.p = (nth l i).p ∧ o.k = (nth l i).k ∧ o.call = (nth l i).call ∧ o.ret = (nth l i).ret ∧ o.done = (nth l i).done ∧ ((nth l i).done = false → o.res = (nth l i).res)) : zkx q (l.set i o) :=
 ⟨by simpa using h.len, fun x hx => by
  rcases List.mem_or_eq_of_mem_set hx with hx | rfl
  ·exact h.ops x hx
  ·exact hb, h.wf.set hi hf⟩
end Go.Proofs.Ytbeebjdnapkhhaa
