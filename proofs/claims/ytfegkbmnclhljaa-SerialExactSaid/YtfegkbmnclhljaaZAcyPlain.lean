/-
  No cycle: a rank, so a topological order; the edges of a cycle.
-/
import Derived.Test.YtfegkbmnclhljaaZExtPlain
namespace Go.Proofs.Ytfegkbmnclhljaa
set_option linter.unusedVariables false

theorem countP_lt {α : Type} {p q : α → Bool} {x : α} (h1 : q x = true) (h2 : p x = false) : ∀ {l : List α}, (∀ y ∈ l, p y = true → q y = true) → x ∈ l → l.countP p < l.countP q
  | [], _, hx => by cases hx
  | y :: l, h, hx => by
    rw [List.countP_cons, List.countP_cons]
    have hm : l.countP p ≤ l.countP q := List.countP_mono_left fun z hz => h z (List.mem_cons_of_mem _ hz)
    by_cases hxl : x ∈ l
    · have := countP_lt h1 h2 (fun z hz => h z (List.mem_cons_of_mem _ hz)) hxl
      have hy := h y (by simp)
      by_cases hp : p y = true
      · rw [if_pos hp, if_pos (hy hp)]; omega
      · rw [if_neg hp]
        split <;> omega
    · have hxy : x = y := by
        rcases List.mem_cons.1 hx with e | e
        · exact e
        · exact absurd e hxl
      subst hxy
      rw [if_neg (by rw [h2]; decide), if_pos h1]
      omega
section
variable {n : Nat} {E : List (Nat × Nat)} (h : InN n E)
include h
open Classical in
theorem no_cyc_rank (hc : rCycle E n = []) : ∃ f : Nat → Nat, ∀ e ∈ E, f e.1 < f e.2 := by
  refine ⟨fun v => (List.range n).countP fun u => decide (Tg n E 0 u v), fun e he => ?_⟩
  have hin := h e he
  have hm : ((e.2 : Nat) : Int) ∈ succs E e.1 := succs_mem.2 ⟨e, he, rfl, rfl⟩
  refine countP_lt (x := e.1) ?_ ?_ (fun y hy hp => ?_) (List.mem_range.2 hin.1)
  · exact decide_eq_true (.one hm)
  · exact decide_eq_false fun ht => cyc_ne h hin.1 ht hc
  · exact decide_eq_true ((of_decide_eq_true hp).trans hin.1 (Nat.zero_le _) (.one hm))
theorem no_cyc_topo (hc : rCycle E n = []) : rtK E n n [] = some (topoEnd n E) ∧ Ord n E (topoEnd n E) := by
  obtain ⟨f, hf⟩ := no_cyc_rank h hc
  obtain ⟨h1, h2⟩ := acyc_rt h f hf
  exact ⟨h1, topo_ord h h2⟩
theorem way_chain {s : Nat} (hs : s < n) : ∀ (k v : Nat), v < n → Way E (cdist n E s) s k v → (k = 0 → (s : Int) ∈ succs E v) →
    ∀ i, i ≤ k → (0 ≤ nth ((v : Int) :: wayOn E (cdist n E s) s k v) i ∧ nth ((v : Int) :: wayOn E (cdist n E s) s k v) i < n) ∧ (if i = k then (s : Int) else nth ((v : Int) :: wayOn E (cdist n E s) s k v) (i + 1)) ∈ succs E (nth ((v : Int) :: wayOn E (cdist n E s) s k v) i).toNat
  | 0, v, hv, _, h0, i, hi => by
    obtain rfl : i = 0 := by omega
    rw [if_pos rfl]
    refine ⟨⟨?_, ?_⟩, ?_⟩
    · show (0 : Int) ≤ (v : Int); omega
    · show (v : Int) < n; omega
    · show (s : Int) ∈ succs E ((v : Int)).toNat
      rw [Int.toNat_natCast]; exact h0 rfl
  | k + 1, v, hv, hw, _, i, hi => by
    rcases hw with h0 | ⟨w, hw, hp⟩
    · omega
    obtain ⟨j, hj, e, hq⟩ := findIx_spec hw hp
    have hin := succs_in h (nth_mem hj)
    have hst : stepOn E (cdist n E s) s (k + 1 : Nat) v = (nth (succs E v) j).toNat := by unfold stepOn; rw [e]; rfl
    obtain ⟨_, _, _, _, _, hW⟩ := Way.step h hs (.inr ⟨w, hw, hp⟩)
    unfold onWay at hq
    rw [decide_eq_true_eq] at hq
    have hun : stepOn E (cdist n E s) s (k + 1 : Nat) v < n := by rw [hst]; omega
    have hu : ((stepOn E (cdist n E s) s (k + 1 : Nat) v : Nat) : Int) ∈ succs E v := by
      rw [hst, show (((nth (succs E v) j).toNat : Nat) : Int) = nth (succs E v) j by omega]
      exact nth_mem hj
    have ih := way_chain hs k _ hun hW fun hk => by
      subst hk
      have := (dist_wx h hs 0 (stepOn E (cdist n E s) s (0 + 1 : Nat) v) hun (by rw [hst]; exact hq.2)).2
      exact this
    cases i with
    | zero =>
      refine ⟨⟨?_, ?_⟩, ?_⟩
      · show (0 : Int) ≤ (v : Int); omega
      · show (v : Int) < n; omega
      · rw [if_neg (by omega)]
        show ((stepOn E (cdist n E s) s (k + 1 : Nat) v : Nat) : Int) ∈ succs E ((v : Int)).toNat
        rw [Int.toNat_natCast]; exact hu
    | succ i =>
      have := ih i (by omega)
      by_cases hik : i = k
      · rw [if_pos hik] at this
        rw [if_pos (by omega)]
        exact this
      · rw [if_neg hik] at this
        rw [if_neg (by omega)]
        exact this
theorem cyc_edges (hc : rCycle E n ≠ []) : ∀ i, i < (rCycle E n).length → ∃ a b : Nat, nth (rCycle E n) i = a ∧ nth (rCycle E n) ((i + 1) % (rCycle E n).length) = b ∧ (a, b) ∈ E := by
  have hg : rCycle E n = cycB n E n := (cycle_eq h).symm
  rcases cycB_inv h n (Nat.le_refl n) with ⟨e, _⟩ | ⟨s0, K, h1, h2, e, _, _⟩
  · exact absurd (hg.trans e) hc
  rw [hg, e]
  intro i hi
  have hlen : ((s0 : Int) :: wayOn E (cdist n E s0) s0 K s0).length = K + 1 := by rw [List.length_cons, wayOn_len]
  rw [hlen] at hi ⊢
  obtain ⟨k, hk, _, hW⟩ := loopLen_way h h1 (show loopLen (cdist n E s0) s0 (succs E s0) ≠ 0 by have : loopLen (cdist n E s0) s0 (succs E s0) = _ := h2; omega)
  have hkK : k = K := by have : loopLen (cdist n E s0) s0 (succs E s0) = _ := h2; omega
  subst hkK
  obtain ⟨⟨c1, c2⟩, c3⟩ := way_chain h h1 k s0 h1 hW (fun h0 => by subst h0; exact wx_of_loop h h1 (L := 0) h2) i (by omega)
  have hc3 : nth ((s0 : Int) :: wayOn E (cdist n E s0) s0 k s0) ((i + 1) % (k + 1)) ∈ succs E (nth ((s0 : Int) :: wayOn E (cdist n E s0) s0 k s0) i).toNat := by
    by_cases hik : i = k
    · subst hik
      rw [if_pos rfl] at c3
      rw [Nat.mod_self]
      exact c3
    · rw [if_neg hik] at c3
      rw [Nat.mod_eq_of_lt (by omega)]
      exact c3
  obtain ⟨q, hq, q1, q2⟩ := succs_mem.1 hc3
  refine ⟨q.1, q.2, by omega, q2.symm, hq⟩
end
end Go.Proofs.Ytfegkbmnclhljaa
