/-
  No cycle: a rank, so a topological order; the edges of a cycle.
-/
import Derived.Test.YtokmanfcndelfaaZExtPlain
namespace Go.Proofs.Ytokmanfcndelfaa
set_option linter.unusedVariables false

theorem zbC {α : Type} {p q : α → Bool} {x : α} (h1 : q x = true) (h2 : p x = false) : ∀ {l : List α}, (∀ y ∈ l, p y = true → q y = true) → x ∈ l → l.countP p < l.countP q
 | [], _, hx => by cases hx
 | y :: l, h, hx => by
  rw [List.countP_cons, List.countP_cons]
  have hm : l.countP p ≤ l.countP q := List.countP_mono_left fun z hz => h z (List.mem_cons_of_mem _ hz)
  by_cases hxl : x ∈ l
  ·have := zbC h1 h2 (fun z hz => h z (List.mem_cons_of_mem _ hz)) hxl
   have hy := h y (by simp)
   by_cases hp : p y = true
   ·rw [if_pos hp, if_pos (hy hp)]; omega
   ·rw [if_neg hp]
    split <;> omega
  ·have hxy : x = y := by
    rcases List.mem_cons.1 hx with e | e
    ·exact e
    ·exact absurd e hxl
   subst hxy
   rw [if_neg (by rw [h2]; decide), if_pos h1]
   omega
section
variable {n : Nat} {E : List (Nat × Nat)} (h : InN n E)
include h
open Classical in
theorem zdk (hc : xm E n = []) : ∃ f : Nat → Nat, ∀ e ∈ E, f e.1 < f e.2 := by
 refine ⟨fun v => (List.range n).countP fun u => decide (Tg n E 0 u v), fun e he => ?_⟩
 have hin := h e he
 have hm : ((e.2 : Nat) : Int) ∈ zy E e.1 := yM.2 ⟨e, he, rfl, rfl⟩
 refine zbC (x := e.1) ?_ ?_ (fun y hy hp => ?_) (List.mem_range.2 hin.1)
 ·exact decide_eq_true (.one hm)
 ·exact decide_eq_false fun ht => zi9 h hin.1 ht hc
 ·exact decide_eq_true ((of_decide_eq_true hp).trans hin.1 (Nat.zero_le _) (.one hm))
theorem Xp (hc : xm E n = []) : rtK E n n [] = some (yB n E) ∧ Ord n E (yB n E) := by
 obtain ⟨f, hf⟩ := zdk h hc
 obtain ⟨h1, h2⟩ := ziC h f hf
 exact ⟨h1, zej h h2⟩
theorem zhS {o : List Int} (ho : Ord n E o) : ∃ f : Nat → Nat, ∀ e ∈ E, f e.1 < f e.2 := by
 have hp : ∀ v : Nat, v < n → ∃ i, i < n ∧ nth o i = (v : Int) := fun v hv => ho.pos hv
 refine ⟨fun v => if hv : v < n then (hp v hv).choose else 0, fun e he => ?_⟩
 have hin := h e he
 dsimp only
 rw [dif_pos hin.1, dif_pos hin.2]
 obtain ⟨a1, a2⟩ := (hp e.1 hin.1).choose_spec
 obtain ⟨b1, b2⟩ := (hp e.2 hin.2).choose_spec
 exact ho.fwd e he _ _ a1 b1 a2 b2
theorem zja (hc : xm E n ≠ []) : rtK E n n [] = none := by
 rw [zdC h]
 split
 ·rfl
 ·rename_i hlt
  exfalso
  obtain ⟨_, hT⟩ := Zy h (n + 1) (yq n E) (TI.start h) (by show n < 0 + (n + 1); omega)
  have hle : (yB n E).length ≤ n := hT.le
  obtain ⟨f, hf⟩ := zhS h (zej h (by omega))
  exact hc (zet h f hf)
theorem zcH {s : Nat} (hs : s < n) : ∀ (k v : Nat), v < n → Way E (zT n E s) s k v → (k = 0 → (s : Int) ∈ zy E v) →
  ∀ i, i ≤ k → (0 ≤ nth ((v : Int) :: Zt E (zT n E s) s k v) i ∧ nth ((v : Int) :: Zt E (zT n E s) s k v) i < n) ∧ (if i = k then (s : Int) else nth ((v : Int) :: Zt E (zT n E s) s k v) (i + 1)) ∈ zy E (nth ((v : Int) :: Zt E (zT n E s) s k v) i).toNat
 | 0, v, hv, _, h0, i, hi => by
  obtain rfl : i = 0 := by omega
  rw [if_pos rfl]
  refine ⟨⟨?_, ?_⟩, ?_⟩
  ·show (0 : Int) ≤ (v : Int); omega
  ·show (v : Int) < n; omega
  ·show (s : Int) ∈ zy E ((v : Int)).toNat
   rw [Int.toNat_natCast]; exact h0 rfl
 | k + 1, v, hv, hw, _, i, hi => by
  rcases hw with h0 | ⟨w, hw, hp⟩
  ·omega
  obtain ⟨j, hj, e, hq⟩ := Xm hw hp
  have hin := yw h (zI hj)
  have hst : xD E (zT n E s) s (k + 1 : Nat) v = (nth (zy E v) j).toNat := by unfold xD; rw [e]; rfl
  obtain ⟨_, _, _, _, _, hW⟩ := Way.step h hs (.inr ⟨w, hw, hp⟩)
  unfold Xq at hq
  rw [decide_eq_true_eq] at hq
  have hun : xD E (zT n E s) s (k + 1 : Nat) v < n := by rw [hst]; omega
  have hu : ((xD E (zT n E s) s (k + 1 : Nat) v : Nat) : Int) ∈ zy E v := by
   rw [hst, show (((nth (zy E v) j).toNat : Nat) : Int) = nth (zy E v) j by omega]
   exact zI hj
  have ih := zcH hs k _ hun hW fun hk => by
   subst hk
   have := (zaW h hs 0 (xD E (zT n E s) s (0 + 1 : Nat) v) hun (by rw [hst]; exact hq.2)).2
   exact this
  cases i with
  | zero =>
   refine ⟨⟨?_, ?_⟩, ?_⟩
   ·show (0 : Int) ≤ (v : Int); omega
   ·show (v : Int) < n; omega
   ·rw [if_neg (by omega)]
    show ((xD E (zT n E s) s (k + 1 : Nat) v : Nat) : Int) ∈ zy E ((v : Int)).toNat
    rw [Int.toNat_natCast]; exact hu
  | succ i =>
   have := ih i (by omega)
   by_cases hik : i = k
   ·rw [if_pos hik] at this
    rw [if_pos (by omega)]
    exact this
   ·rw [if_neg hik] at this
    rw [if_neg (by omega)]
    exact this
theorem zbF (hc : xm E n ≠ []) : ∀ i, i < (xm E n).length → ∃ a b : Nat, nth (xm E n) i = a ∧ nth (xm E n) ((i + 1) % (xm E n).length) = b ∧ (a, b) ∈ E := by
 have hg : xm E n = zbr n E n := (XE h).symm
 rcases WZ h n (Nat.le_refl n) with ⟨e, _⟩ | ⟨s0, K, h1, h2, e, _, _⟩
 ·exact absurd (hg.trans e) hc
 rw [hg, e]
 intro i hi
 have hlen : ((s0 : Int) :: Zt E (zT n E s0) s0 K s0).length = K + 1 := by rw [List.length_cons, Wc]
 rw [hlen] at hi ⊢
 obtain ⟨k, hk, _, hW⟩ := ZV h h1 (show yX (zT n E s0) s0 (zy E s0) ≠ 0 by have : yX (zT n E s0) s0 (zy E s0) = _ := h2; omega)
 have hkK : k = K := by have : yX (zT n E s0) s0 (zy E s0) = _ := h2; omega
 subst hkK
 obtain ⟨⟨c1, c2⟩, c3⟩ := zcH h h1 k s0 h1 hW (fun h0 => by subst h0; exact zaP h h1 (L := 0) h2) i (by omega)
 have hc3 : nth ((s0 : Int) :: Zt E (zT n E s0) s0 k s0) ((i + 1) % (k + 1)) ∈ zy E (nth ((s0 : Int) :: Zt E (zT n E s0) s0 k s0) i).toNat := by
  by_cases hik : i = k
  ·subst hik
   rw [if_pos rfl] at c3
   rw [Nat.mod_self]
   exact c3
  ·rw [if_neg hik] at c3
   rw [Nat.mod_eq_of_lt (by omega)]
   exact c3
 obtain ⟨q, hq, q1, q2⟩ := yM.1 hc3
 refine ⟨q.1, q.2, by omega, q2.symm, hq⟩
end
end Go.Proofs.Ytokmanfcndelfaa
