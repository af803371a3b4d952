/-
  Some texts as one: FmRef03, TopoRef, FmWalks.
-/
import Derived.Test.YtfegkbmnclhljaaZG
import Derived.Test.YtfegkbmnclhljaaZK
import Derived.Test.YtfegkbmnclhljaaZL
import Derived.Test.YtfegkbmnclhljaaZJ
/-
  The graphs of layer 3 and what its reference asks of them.
-/
namespace Go.Proofs.Ytfegkbmnclhljaa
set_option linter.unusedVariables false
open Go.RowKit

def leadsB (E : List (Nat × Nat)) (a b : Int) : Bool := E.any fun e => decide ((e.1 : Int) = a) && decide ((e.2 : Int) = b)
def readyB (E : List (Nat × Nat)) (v : Int) (out : List Int) : Bool := E.all fun e => !decide ((e.2 : Int) = v) || hasB out e.1
def lstK (p : Nat → Bool) (n : Nat) : Nat → Int
  | 0 => -1
  | k + 1 => if p (n - (k + 1)) = true then ((n - (k + 1) : Nat) : Int) else lstK p n k
def nextB (E : List (Nat × Nat)) (out : List Int) (v : Nat) : Bool := !hasB out v && readyB E v out
def rtK (E : List (Nat × Nat)) (n : Nat) : Nat → List Int → Option (List Int)
  | 0, out => some out
  | k + 1, out => if lstK (nextB E out) n n < 0 then none else rtK E n k (out ++ [lstK (nextB E out) n n])
end Go.Proofs.Ytfegkbmnclhljaa
/-
  graph.Topo and the reference take the same vertices in the same order.
-/
namespace Go.Proofs.Ytfegkbmnclhljaa
set_option linter.unusedVariables false

theorem lstK_spec (p : Nat → Bool) (n : Nat) : ∀ k, k ≤ n → (lstK p n k = -1 ∧ ∀ v, n - k ≤ v → v < n → p v = false) ∨ ∃ v, lstK p n k = (v : Nat) ∧ n - k ≤ v ∧ v < n ∧ p v = true ∧ ∀ u, n - k ≤ u → u < v → p u = false
  | 0, _ => .inl ⟨rfl, fun v h1 h2 => by omega⟩
  | k + 1, hk => by
    have ih := lstK_spec p n k (by omega)
    unfold lstK
    by_cases hp : p (n - (k + 1)) = true
    · rw [if_pos hp]
      exact .inr ⟨_, rfl, Nat.le_refl _, by omega, hp, fun u h1 h2 => by omega⟩
    · rw [if_neg hp]
      have hp' : p (n - (k + 1)) = false := by simpa using hp
      rcases ih with ⟨e, h⟩ | ⟨v, e, h1, h2, h3, h4⟩
      · refine .inl ⟨e, fun v q1 q2 => ?_⟩
        by_cases hv : v = n - (k + 1)
        · subst hv; exact hp'
        · exact h v (by omega) q2
      · refine .inr ⟨v, e, by omega, h2, h3, fun u q1 q2 => ?_⟩
        by_cases hv : u = n - (k + 1)
        · subst hv; exact hp'
        · exact h4 u (by omega) q2
theorem ready_cnt {n : Nat} {E : List (Nat × Nat)} (h : InN n E) (out : List Int) (v : Nat) : readyB E v out = true ↔ cntP n E out v = 0 := by
  unfold readyB cntP
  rw [List.all_eq_true, List.countP_eq_zero]
  constructor
  · intro hr u hu hc
    simp only [Bool.and_eq_true, decide_eq_true_eq] at hc
    obtain ⟨e, he, h1, h2⟩ := succs_mem.1 hc.2
    have := hr e he
    subst h1
    have h3 : ((e.2 : Nat) : Int) = (v : Int) := h2
    rw [h3] at this
    unfold hasB at this
    simp at this
    exact hc.1 this
  · intro hc e he
    have hin := h e he
    by_cases hv : ((e.2 : Nat) : Int) = v
    · have := hc e.1 (List.mem_range.2 hin.1)
      simp only [Bool.and_eq_true, decide_eq_true_eq, not_and] at this
      unfold hasB
      by_cases hm : ((e.1 : Nat) : Int) ∈ out
      · simp [hm]
      · exact absurd (succs_mem.2 ⟨e, he, rfl, hv⟩) (this hm)
    · simp [hv]
theorem TI.next {n : Nat} {E : List (Nat × Nat)} (hE : InN n E) {s : TopS} (h : TI n E s) (v : Nat) (hv : v < n) : nextB E s.out v = true ↔ (v : Int) ∈ s.h := by
  rw [h.hM, Int.toNat_natCast, h.cnt v hv]
  unfold nextB hasB
  rw [Bool.and_eq_true, ready_cnt hE]
  constructor
  · rintro ⟨h1, h2⟩
    exact ⟨by omega, by simpa using h1, by omega⟩
  · rintro ⟨_, h1, h2⟩
    exact ⟨by simpa using h1, by omega⟩
theorem topo_ref {n : Nat} {E : List (Nat × Nat)} (hE : InN n E) : ∀ (k f : Nat) (s : TopS), TI n E s → s.out.length + k = n → n < s.out.length + f → rtK E n k s.out = if (topoIter E f s).out.length < n then none else some (topoIter E f s).out
  | k, 0, s, h, _, hf => by have := h.le; omega
  | k, f + 1, s, h, hk, hf => by
    have hl := lstK_spec (nextB E s.out) n n (Nat.le_refl _)
    by_cases h0 : s.h = []
    · rw [topoIter_done E (f + 1) s h0]
      cases k with
      | zero =>
        rw [if_neg (by omega)]; rfl
      | succ k =>
        rw [if_pos (by omega)]
        unfold rtK
        rcases hl with ⟨e, _⟩ | ⟨v, e, _, h2, h3, _⟩
        · rw [if_pos (by omega)]
        · have := (h.next hE v h2).1 h3
          rw [h0] at this; cases this
    · obtain ⟨q, hq⟩ : ∃ q, s.h.length = q + 1 := ⟨s.h.length - 1, by have := List.length_pos_iff.2 h0; omega⟩
      obtain ⟨v, hv, hvn, hvo, hm0, hmin, hD, hN, hR⟩ := h.first hq
      have hvh : (v : Int) ∈ s.h := by
        rw [h.hM]; exact ⟨by omega, hvo, by rw [Int.toNat_natCast]; exact hm0⟩
      have hso : (topoStep E s).out = s.out ++ [(v : Int)] := by
        unfold topoStep
        dsimp only
        rw [show s.h.length - 1 = q by omega, hv]
      have e1 : topoIter E (f + 1) s = topoIter E f (topoStep E s) := if_neg h0
      cases k with
      | zero =>
        have := nodup_len hN hR
        simp at this
        omega
      | succ k =>
        have hlv : lstK (nextB E s.out) n n = v := by
          rcases hl with ⟨_, hno⟩ | ⟨u, e, _, h2, h3, h4⟩
          · have := hno v (by omega) hvn
            rw [(h.next hE v hvn).2 hvh] at this; cases this
          · have hu := (h.next hE u h2).1 h3
            have hle := hmin _ hu
            rcases Nat.lt_or_ge v u with hlt | hge
            · have := h4 v (by omega) hlt
              rw [(h.next hE v hvn).2 hvh] at this; cases this
            · rw [e]; omega
        unfold rtK
        rw [hlv, if_neg (by omega), ← hso, e1]
        exact topo_ref hE k f (topoStep E s) (h.step hE h0) (by rw [topoStep_out]; omega) (by rw [topoStep_out]; omega)
theorem topo_eq {n : Nat} {E : List (Nat × Nat)} (hE : InN n E) : rtK E n n [] = if (topoEnd n E).length < n then none else some (topoEnd n E) :=
  topo_ref hE n (n + 1) (topoStart n E) (TI.start hE) (Nat.zero_add n) (by show n < 0 + (n + 1); omega)
end Go.Proofs.Ytfegkbmnclhljaa
/-
  The reference's walks and its Cycle.
-/
namespace Go.Proofs.Ytfegkbmnclhljaa
set_option linter.unusedVariables false
open Go.RowKit

def lessB : List Int → List Int → Bool
  | x :: a, y :: b => if x = y then lessB a b else decide (x < y)
  | [], b => decide (0 < b.length)
  | _ :: _, [] => false
def walkOf (out : List (List Int)) (tg ab k v w : Nat) : List Int := if k = 1 then (if w = tg then [(v : Int)] else []) else if ab < w ∧ nth out w ≠ [] then (v : Int) :: nth out w else []
def stepW (E : List (Nat × Nat)) (out : List (List Int)) (tg ab k v : Nat) (cur : List Int) (w : Nat) : List Int :=
  if leadsB E v w = true ∧ walkOf out tg ab k v w ≠ [] ∧ (cur = [] ∨ lessB (walkOf out tg ab k v w) cur = true) then walkOf out tg ab k v w else cur
def curW (E : List (Nat × Nat)) (out : List (List Int)) (tg ab k v j : Nat) : List Int := (List.range j).foldl (stepW E out tg ab k v) []
def nextTo (E : List (Nat × Nat)) (out : List (List Int)) (tg ab k n i : Nat) : List (List Int) := (List.range n).map fun v => if v < i then curW E out tg ab k v n else []
def walksTo (E : List (Nat × Nat)) (tg ab n : Nat) : Nat → List (List Int)
  | 0 => List.replicate n []
  | k + 1 => nextTo E (walksTo E tg ab n k) tg ab (k + 1) n n
theorem nextTo_len (E : List (Nat × Nat)) (out : List (List Int)) (tg ab k n i : Nat) : (nextTo E out tg ab k n i).length = n := by simp [nextTo]
theorem walksTo_len (E : List (Nat × Nat)) (tg ab n : Nat) : ∀ k, (walksTo E tg ab n k).length = n
  | 0 => by simp [walksTo]
  | k + 1 => nextTo_len _ _ _ _ _ _ _
theorem curW_succ (E : List (Nat × Nat)) (out : List (List Int)) (tg ab k v j : Nat) : curW E out tg ab k v (j + 1) = stepW E out tg ab k v (curW E out tg ab k v j) j := by
  unfold curW
  rw [List.range_succ, List.foldl_append]; rfl
def cycAt (E : List (Nat × Nat)) (n len s : Nat) : List Int := nth (walksTo E s s n len) s
def cycRow (E : List (Nat × Nat)) (n len : Nat) : Nat → Nat → List Int
  | 0, _ => []
  | k + 1, s => if cycAt E n len s = [] then cycRow E n len k (s + 1) else cycAt E n len s
def cycFrom (E : List (Nat × Nat)) (n : Nat) : Nat → Nat → List Int
  | 0, _ => []
  | k + 1, len => if cycRow E n len n 0 = [] then cycFrom E n k (len + 1) else cycRow E n len n 0
def rCycle (E : List (Nat × Nat)) (n : Nat) : List Int := cycFrom E n n 1
end Go.Proofs.Ytfegkbmnclhljaa
