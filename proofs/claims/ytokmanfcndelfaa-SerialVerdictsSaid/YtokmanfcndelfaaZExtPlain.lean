/-
  Topological orders and cycles, told by each other.
-/
import Derived.Test.YtokmanfcndelfaaZOrderPlain
import Derived.Test.YtokmanfcndelfaaZReachPlain
namespace Go.Proofs.Ytokmanfcndelfaa
set_option linter.unusedVariables false

inductive Tg (n : Nat) (E : List (Nat × Nat)) (lo : Nat) : Nat → Nat → Prop where
 | one {u v : Nat} (h : (v : Int) ∈ zy E u) : Tg n E lo u v
 | more {u w v : Nat} (h : (w : Int) ∈ zy E u) (hw : w < n) (hl : lo ≤ w) (hr : Tg n E lo w v) : Tg n E lo u v
theorem Tg.trans {n : Nat} {E : List (Nat × Nat)} {lo a b c : Nat} (h : Tg n E lo a b) (hb : b < n) (hl : lo ≤ b) (k : Tg n E lo b c) : Tg n E lo a c := by
 induction h with
 | one h => exact .more h hb hl k
 | more h hw hlw _ ih => exact .more h hw hlw (ih hb hl k)
theorem Tg.split {n : Nat} {E : List (Nat × Nat)} {lo u v : Nat} (h : Tg n E lo u v) : Tg n E (lo + 1) u v ∨ (Tg n E (lo + 1) u lo ∧ Tg n E (lo + 1) lo v) := by
 induction h with
 | one h => exact .inl (.one h)
 | @more u w v h hw hl hr ih =>
  by_cases e : w = lo
  ·subst e
   rcases ih with ih | ih
   ·exact .inr ⟨.one h, ih⟩
   ·exact .inr ⟨.one h, ih.2⟩
  ·rcases ih with ih | ih
   ·exact .inl (.more h hw (by omega) ih)
   ·exact .inr ⟨.more h hw (by omega) ih.1, ih.2⟩
theorem Tg.wx {n : Nat} {E : List (Nat × Nat)} {s u v : Nat} (h : Tg n E (s + 1) u v) (hv : v = s) : ∃ L, Wx n E s (L + 1) u := by
 induction h with
 | one h => subst hv; exact ⟨0, h⟩
 | more h hw hl _ ih =>
  obtain ⟨L, hL⟩ := ih hv
  exact ⟨L + 1, _, hw, h, by omega, hL⟩
theorem zbA {n : Nat} {E : List (Nat × Nat)} : ∀ (k lo u : Nat), n ≤ lo + k → lo ≤ u → u < n → Tg n E lo u u → ∃ s, s < n ∧ ∃ L, Wx n E s (L + 1) s
 | 0, lo, u, hk, hl, hu, _ => by omega
 | k + 1, lo, u, hk, hl, hu, h => by
  have hlo : lo < n := by omega
  rcases h.split with h1 | ⟨h1, h2⟩
  ·by_cases e : u = lo
   ·subst e; exact ⟨u, hu, h1.wx rfl⟩
   ·exact zbA k (lo + 1) u (by omega) (by omega) hu h1
  ·by_cases e : u = lo
   ·subst e; exact ⟨u, hu, h1.wx rfl⟩
   ·exact ⟨lo, hlo, (h2.trans hu (by omega) h1).wx rfl⟩
theorem zi9 {n : Nat} {E : List (Nat × Nat)} (h : InN n E) {u : Nat} (hu : u < n) (ht : Tg n E 0 u u) : xm E n ≠ [] := by
 obtain ⟨s, hs, L, hx⟩ := zbA n 0 u (by omega) (Nat.zero_le _) hu ht
 rw [← XE h]
 intro he
 have hl := zau h hs hx
 rcases WZ h n (Nat.le_refl n) with ⟨_, hz⟩ | ⟨s0, K, _, _, e, _, _⟩
 ·have h0 : yX (zT n E s) s (zy E s) = 0 := hz s hs
  omega
 ·have he' : zbr n E n = [] := he
  rw [he'] at e; cases e
def zil (n : Nat) (E : List (Nat × Nat)) (out : List Int) : Prop := ∀ j, j < out.length → ∀ u : Nat, u < n → nth out j ∈ zy E u → (u : Int) ∈ out.take j
theorem UE {n : Nat} {E : List (Nat × Nat)} (h : InN n E) : ∀ (k : Nat) (s : zbq), TI n E s → zil n E s.out → zil n E (yd E k s).out
 | 0, s, _, hb => hb
 | k + 1, s, hT, hb => by
  unfold yd
  split
  ·exact hb
  ·rename_i h0
   refine UE h k _ (hT.step h h0) ?_
   obtain ⟨q, hq⟩ : ∃ q, s.h.length = q + 1 := ⟨s.h.length - 1, by have := List.length_pos_iff.2 h0; omega⟩
   obtain ⟨v, hv, hvn, hvo, hm0, _, _, _, _⟩ := hT.first hq
   have hso : (yS E s).out = s.out ++ [(v : Int)] := by
    unfold yS
    dsimp only
    rw [show s.h.length - 1 = q by omega, hv]
   rw [hso]
   intro j hj u hu hm
   simp at hj
   by_cases hjl : j < s.out.length
   ·rw [yz hjl] at hm
    rw [List.take_append_of_le_length (by omega)]
    exact hb j hjl u hu hm
   ·obtain rfl : j = s.out.length := by omega
    rw [xx] at hm
    rw [List.take_append_of_le_length (Nat.le_refl _), List.take_length]
    have hc := hT.cnt v hvn
    have h0 : zcN n E s.out v = 0 := by omega
    have := List.countP_eq_zero.1 h0 u (List.mem_range.2 hu)
    simp only [Bool.and_eq_true, decide_eq_true_eq, not_and] at this
    exact Classical.byContradiction fun hno => this hno hm
structure Ord (n : Nat) (E : List (Nat × Nat)) (out : List Int) : Prop where
 len : out.length = n
 nd : out.Nodup
 rng : ∀ v ∈ out, 0 ≤ v ∧ v < n
 fwd : ∀ e ∈ E, ∀ i j, i < n → j < n → nth out i = (e.1 : Int) → nth out j = (e.2 : Int) → i < j
theorem zej {n : Nat} {E : List (Nat × Nat)} (h : InN n E) (hl : (yB n E).length = n) : Ord n E (yB n E) := by
 obtain ⟨_, hT⟩ := Zy h (n + 1) (yq n E) (TI.start h) (by show n < 0 + (n + 1); omega)
 have hb := UE h (n + 1) (yq n E) (TI.start h) (fun j hj => by cases hj)
 refine ⟨hl, hT.outN, hT.outR, fun e he i j hi hj e1 e2 => ?_⟩
 have hl' : (yd E (n + 1) (yq n E)).out.length = n := hl
 have hm := hb j (by omega) e.1 (h e he).1 (by
  have e2' : nth (yd E (n + 1) (yq n E)).out j = (e.2 : Int) := e2
  rw [e2']; exact yM.2 ⟨e, he, rfl, rfl⟩)
 obtain ⟨q, hq, hqe⟩ := List.getElem_of_mem hm
 rw [List.getElem_take] at hqe
 rw [List.length_take] at hq
 have e1' : nth (yd E (n + 1) (yq n E)).out i = (e.1 : Int) := e1
 rw [nth_eq (by omega)] at e1'
 have hiq : i = q := (List.getElem_inj hT.outN).1 (e1'.trans hqe.symm)
 omega
theorem Ord.pos {n : Nat} {E : List (Nat × Nat)} {o : List Int} (h : Ord n E o) {v : Nat} (hv : v < n) : ∃ p, p < n ∧ nth o p = (v : Int) := by
 have hm : (v : Int) ∈ o := Classical.byContradiction fun hno => by
  have := xT (n := n) (l := (v : Int) :: o) (List.nodup_cons.2 ⟨hno, h.nd⟩) (fun x hx => by
   rcases List.mem_cons.1 hx with rfl | hx
   ·omega
   ·exact h.rng x hx)
  rw [List.length_cons, h.len] at this
  omega
 obtain ⟨p, hp, he⟩ := List.getElem_of_mem hm
 exact ⟨p, by rw [← h.len]; exact hp, by rw [nth_eq hp, he]⟩
end Go.Proofs.Ytokmanfcndelfaa
