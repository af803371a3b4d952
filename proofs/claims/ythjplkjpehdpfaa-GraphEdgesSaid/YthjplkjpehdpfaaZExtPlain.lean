/-
  Topological orders and cycles, told by each other.
-/
import Derived.Test.YthjplkjpehdpfaaZOrderPlain
import Derived.Test.YthjplkjpehdpfaaZReachPlain
namespace Go.Proofs.Ythjplkjpehdpfaa
set_option linter.unusedVariables false

inductive Tg (n : Nat) (E : List (Nat × Nat)) (lo : Nat) : Nat → Nat → Prop where
 | one {u v : Nat} (h : (v : Int) ∈ zi E u) : Tg n E lo u v
 | more {u w v : Nat} (h : (w : Int) ∈ zi E u) (hw : w < n) (hl : lo ≤ w) (hr : Tg n E lo w v) : Tg n E lo u v
theorem Tg.trans {n : Nat} {E : List (Nat × Nat)} {lo a b c : Nat} (h : Tg n E lo a b) (hb : b < n) (hl : lo ≤ b) (k : Tg n E lo b c) : Tg n E lo a c := by
 induction h with
 | one h => exact .more h hb hl k
 | more h hw hlw _ ih => exact .more h hw hlw (ih hb hl k)
theorem Tg.split {n : Nat} {E : List (Nat × Nat)} {lo u v : Nat} (h : Tg n E lo u v) : Tg n E (lo + 1) u v ∨ (Tg n E (lo + 1) u lo ∧ Tg n E (lo + 1) lo v) := by
 induction h with
 | one h => exact .inl (.one h)
 | @more u w v h hw hl hr ih =>
  by_cases e : w = lo
  ·subst e
   rcases ih with ih | ih
   ·exact .inr ⟨.one h, ih⟩
   ·exact .inr ⟨.one h, ih.2⟩
  ·rcases ih with ih | ih
   ·exact .inl (.more h hw (by omega) ih)
   ·exact .inr ⟨.more h hw (by omega) ih.1, ih.2⟩
theorem Tg.wx {n : Nat} {E : List (Nat × Nat)} {s u v : Nat} (h : Tg n E (s + 1) u v) (hv : v = s) : ∃ L, Wx n E s (L + 1) u := by
 induction h with
 | one h => subst hv; exact ⟨0, h⟩
 | more h hw hl _ ih =>
  obtain ⟨L, hL⟩ := ih hv
  exact ⟨L + 1, _, hw, h, by omega, hL⟩
structure Ord (n : Nat) (E : List (Nat × Nat)) (out : List Int) : Prop where
 len : out.length = n
 nd : out.Nodup
 rng : ∀ v ∈ out, 0 ≤ v ∧ v < n
 fwd : ∀ e ∈ E, ∀ i j, i < n → j < n → nth out i = (e.1 : Int) → nth out j = (e.2 : Int) → i < j
theorem Ord.pos {n : Nat} {E : List (Nat × Nat)} {o : List Int} (h : Ord n E o) {v : Nat} (hv : v < n) : ∃ p, p < n ∧ nth o p = (v : Int) := by
 have hm : (v : Int) ∈ o := Classical.byContradiction fun hno => by
  have := xz (n := n) (l := (v : Int) :: o) (List.nodup_cons.2 ⟨hno, h.nd⟩) (fun x hx => by
   rcases List.mem_cons.1 hx with rfl | hx
   ·omega
   ·exact h.rng x hx)
  rw [List.length_cons, h.len] at this
  omega
 obtain ⟨p, hp, he⟩ := List.getElem_of_mem hm
 exact ⟨p, by rw [← h.len]; exact hp, by rw [nth_eq hp, he]⟩
end Go.Proofs.Ythjplkjpehdpfaa
