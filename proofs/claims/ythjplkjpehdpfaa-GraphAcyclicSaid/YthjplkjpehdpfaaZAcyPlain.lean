/-
  No cycle: a rank, so a topological order; the edges of a cycle.
-/
import Derived.Test.YthjplkjpehdpfaaZExtPlain
namespace Go.Proofs.Ythjplkjpehdpfaa
set_option linter.unusedVariables false

theorem Um {α : Type} {p q : α → Bool} {x : α} (h1 : q x = true) (h2 : p x = false) : ∀ {l : List α}, (∀ y ∈ l, p y = true → q y = true) → x ∈ l → l.countP p < l.countP q
 | [], _, hx => by cases hx
 | y :: l, h, hx => by
  rw [List.countP_cons, List.countP_cons]
  have hm : l.countP p ≤ l.countP q := List.countP_mono_left fun z hz => h z (List.mem_cons_of_mem _ hz)
  by_cases hxl : x ∈ l
  ·have := Um h1 h2 (fun z hz => h z (List.mem_cons_of_mem _ hz)) hxl
   have hy := h y (by simp)
   by_cases hp : p y = true
   ·rw [if_pos hp, if_pos (hy hp)]; omega
   ·rw [if_neg hp]
    split <;> omega
  ·have hxy : x = y := by
    rcases List.mem_cons.1 hx with e | e
    ·exact e
    ·exact absurd e hxl
   subst hxy
   rw [if_neg (by rw [h2]; decide), if_pos h1]
   omega
section
variable {n : Nat} {E : List (Nat × Nat)} (h : InN n E)
include h
open Classical in
theorem XT (hc : ya E n = []) : ∃ f : Nat → Nat, ∀ e ∈ E, f e.1 < f e.2 := by
 refine ⟨fun v => (List.range n).countP fun u => decide (Tg n E 0 u v), fun e he => ?_⟩
 have hin := h e he
 have hm : ((e.2 : Nat) : Int) ∈ zg E e.1 := zM.2 ⟨e, he, rfl, rfl⟩
 refine Um (x := e.1) ?_ ?_ (fun y hy hp => ?_) (List.mem_range.2 hin.1)
 ·exact decide_eq_true (.one hm)
 ·exact decide_eq_false fun ht => zfy h hin.1 ht hc
 ·exact decide_eq_true ((of_decide_eq_true hp).trans hin.1 (Nat.zero_le _) (.one hm))
theorem zaO (hc : ya E n = []) : rtK E n n [] = some (yf n E) ∧ Ord n E (yf n E) := by
 obtain ⟨f, hf⟩ := XT h hc
 obtain ⟨h1, h2⟩ := ze1 h f hf
 exact ⟨h1, zbC h h2⟩
theorem zem {o : List Int} (ho : Ord n E o) : ∃ f : Nat → Nat, ∀ e ∈ E, f e.1 < f e.2 := by
 have hp : ∀ v : Nat, v < n → ∃ i, i < n ∧ nth o i = (v : Int) := fun v hv => ho.pos hv
 refine ⟨fun v => if hv : v < n then (hp v hv).choose else 0, fun e he => ?_⟩
 have hin := h e he
 dsimp only
 rw [dif_pos hin.1, dif_pos hin.2]
 obtain ⟨a1, a2⟩ := (hp e.1 hin.1).choose_spec
 obtain ⟨b1, b2⟩ := (hp e.2 hin.2).choose_spec
 exact ho.fwd e he _ _ a1 b1 a2 b2
theorem zfz (hc : ya E n ≠ []) : rtK E n n [] = none := by
 rw [za7 h]
 split
 ·rfl
 ·rename_i hlt
  exfalso
  obtain ⟨_, hT⟩ := xE h (n + 1) (zR n E) (TI.start h) (by show n < 0 + (n + 1); omega)
  have hle : (yf n E).length ≤ n := hT.le
  obtain ⟨f, hf⟩ := zem h (zbC h (by omega))
  exact hc (zbM h f hf)
theorem zaj {s : Nat} (hs : s < n) : ∀ (k v : Nat), v < n → Way E (zw n E s) s k v → (k = 0 → (s : Int) ∈ zg E v) →
  ∀ i, i ≤ k → (0 ≤ nth ((v : Int) :: xg E (zw n E s) s k v) i ∧ nth ((v : Int) :: xg E (zw n E s) s k v) i < n) ∧ (if i = k then (s : Int) else nth ((v : Int) :: xg E (zw n E s) s k v) (i + 1)) ∈ zg E (nth ((v : Int) :: xg E (zw n E s) s k v) i).toNat
 | 0, v, hv, _, h0, i, hi => by
  obtain rfl : i = 0 := by omega
  rw [if_pos rfl]
  refine ⟨⟨?_, ?_⟩, ?_⟩
  ·show (0 : Int) ≤ (v : Int); omega
  ·show (v : Int) < n; omega
  ·show (s : Int) ∈ zg E ((v : Int)).toNat
   rw [Int.toNat_natCast]; exact h0 rfl
 | k + 1, v, hv, hw, _, i, hi => by
  rcases hw with h0 | ⟨w, hw, hp⟩
  ·omega
  obtain ⟨j, hj, e, hq⟩ := Zb hw hp
  have hin := zK h (zF hj)
  have hst : yJ E (zw n E s) s (k + 1 : Nat) v = (nth (zg E v) j).toNat := by unfold yJ; rw [e]; rfl
  obtain ⟨_, _, _, _, _, hW⟩ := Way.step h hs (.inr ⟨w, hw, hp⟩)
  unfold ZL at hq
  rw [decide_eq_true_eq] at hq
  have hun : yJ E (zw n E s) s (k + 1 : Nat) v < n := by rw [hst]; omega
  have hu : ((yJ E (zw n E s) s (k + 1 : Nat) v : Nat) : Int) ∈ zg E v := by
   rw [hst, show (((nth (zg E v) j).toNat : Nat) : Int) = nth (zg E v) j by omega]
   exact zF hj
  have ih := zaj hs k _ hun hW fun hk => by
   subst hk
   have := (Vx h hs 0 (yJ E (zw n E s) s (0 + 1 : Nat) v) hun (by rw [hst]; exact hq.2)).2
   exact this
  cases i with
  | zero =>
   refine ⟨⟨?_, ?_⟩, ?_⟩
   ·show (0 : Int) ≤ (v : Int); omega
   ·show (v : Int) < n; omega
   ·rw [if_neg (by omega)]
    show ((yJ E (zw n E s) s (k + 1 : Nat) v : Nat) : Int) ∈ zg E ((v : Int)).toNat
    rw [Int.toNat_natCast]; exact hu
  | succ i =>
   have := ih i (by omega)
   by_cases hik : i = k
   ·rw [if_pos hik] at this
    rw [if_pos (by omega)]
    exact this
   ·rw [if_neg hik] at this
    rw [if_neg (by omega)]
    exact this
theorem Uo (hc : ya E n ≠ []) : ∀ i, i < (ya E n).length → ∃ a b : Nat, nth (ya E n) i = a ∧ nth (ya E n) ((i + 1) % (ya E n).length) = b ∧ (a, b) ∈ E := by
 have hg : ya E n = Vv n E n := (Yg h).symm
 rcases Ye h n (Nat.le_refl n) with ⟨e, _⟩ | ⟨s0, K, h1, h2, e, _, _⟩
 ·exact absurd (hg.trans e) hc
 rw [hg, e]
 intro i hi
 have hlen : ((s0 : Int) :: xg E (zw n E s0) s0 K s0).length = K + 1 := by rw [List.length_cons, YC]
 rw [hlen] at hi ⊢
 obtain ⟨k, hk, _, hW⟩ := xq h h1 (show zZ (zw n E s0) s0 (zg E s0) ≠ 0 by have : zZ (zw n E s0) s0 (zg E s0) = _ := h2; omega)
 have hkK : k = K := by have : zZ (zw n E s0) s0 (zg E s0) = _ := h2; omega
 subst hkK
 obtain ⟨⟨c1, c2⟩, c3⟩ := zaj h h1 k s0 h1 hW (fun h0 => by subst h0; exact Vr h h1 (L := 0) h2) i (by omega)
 have hc3 : nth ((s0 : Int) :: xg E (zw n E s0) s0 k s0) ((i + 1) % (k + 1)) ∈ zg E (nth ((s0 : Int) :: xg E (zw n E s0) s0 k s0) i).toNat := by
  by_cases hik : i = k
  ·subst hik
   rw [if_pos rfl] at c3
   rw [Nat.mod_self]
   exact c3
  ·rw [if_neg hik] at c3
   rw [Nat.mod_eq_of_lt (by omega)]
   exact c3
 obtain ⟨q, hq, q1, q2⟩ := zM.1 hc3
 refine ⟨q.1, q.2, by omega, q2.symm, hq⟩
end
end Go.Proofs.Ythjplkjpehdpfaa
