/-
  Calls through interfaces and bound method values that are lent objects; a row cut short.
-/
import Derived.Test.YtbeebjdnapkhhaaZC
namespace Go.Proofs.Ytbeebjdnapkhhaa
set_option linter.unusedVariables false
open Go.RowKit

structure VRs (w : World) (J : JJ) (β : Nat → Option Nat) (s : FSt) (vs : List Value) (fs : List FV) : Prop where
 len : vs.length = fs.length
 get : ∀ (j : Nat) u f, vs[j]? = some u → fs[j]? = some f → VR w (Imm J w β s) β s u f ∧ ∀ id ver, (id, ver) ∈ f.hands → ver ≤ (s.ob id).ver
theorem VRs.cons {w : World} {J : JJ} {β : Nat → Option Nat} {s : FSt} {v : Value} {vs : List Value} {f : FV} {fs : List FV} (h : VR w (Imm J w β s) β s v f) (hv : ∀ id ver, (id, ver) ∈ f.hands → ver ≤ (s.ob id).ver) (hs : VRs w J β s vs fs) : VRs w J β s (v :: vs) (f :: fs) where
 len := by simp [hs.len]
 get j u g hu hg := by
  cases j with
  | zero => simp at hu hg; subst hu; subst hg; exact ⟨h, hv⟩
  | succ j => exact hs.get j u g (by simpa using hu) (by simpa using hg)
theorem VRs.append {w : World} {J : JJ} {β : Nat → Option Nat} {s : FSt} {vs us : List Value} {fs gs : List FV} (h : VRs w J β s vs fs) (hs : VRs w J β s us gs) : VRs w J β s (vs ++ us) (fs ++ gs) where
 len := by simp [hs.len, h.len]
 get j u g hu hg := by
  rcases Nat.lt_or_ge j vs.length with hj | hj
  ·rw [List.getElem?_append_left hj] at hu
   rw [List.getElem?_append_left (by rw [← h.len]; exact hj)] at hg
   exact h.get j u g hu hg
  ·rw [List.getElem?_append_right hj] at hu
   rw [List.getElem?_append_right (by rw [← h.len]; exact hj), ← h.len] at hg
   exact hs.get _ u g hu hg
theorem FR.wraps {N : Nat} {w0 w : World} {J : JJ} {s : FSt} {a : Act} {β : Nat → Option Nat} (h : FR N w0 J s a w β) {x : Operand} {k : Wk} {fs : List FV} (hx : s.ev x = .wrap k fs) : ∃ us, a.eval x = k.mk us ∧ VRs w J β s us fs := by
 have hv := h.ev x
 rw [hx] at hv
 obtain ⟨us, ev, hul, hur⟩ := hv
 refine ⟨us, ev, hul, fun j u f hu hf => ?_⟩
 have h1 := hur j u f hu hf
 refine ⟨VR.of1 h1, fun id ver hm => ?_⟩
 have hw1 : ∀ k fs, f ≠ .wrap k fs := fun k fs e => by rw [e] at h1; have h2 : Rd w (Imm J w β s) u (.wrap k fs) := h1; cases h2
 have hmem : f ∈ fs := List.mem_of_getElem? hf
 refine h.evers x (id := id) (ver := ver) ?_
 rw [hx]
 refine List.mem_filterMap.2 ⟨_, hmem, ?_⟩
 generalize f = q at hm hw1
 cases q with
 | own | ptr | omap => rw [List.mem_singleton.1 hm]; rfl
 | wrap k fs => exact absurd rfl (hw1 k fs)
 | _ => exact (FV.no_hands rfl hm).elim

section
variable {c : Ctx} {ops : Array Oper} {rest : List Oper} {t : List (Nat × FV)} {ob : List (Nat × zp)} {dst : Option Nat} {ty : TypeId} {pos : String} {af : Array Edge} {gd : Option (Nat × Bool)} {QS : FSt → Prop}
end

theorem FW.post {c : Ctx} {code : Code} {Q : Exit → FSt → Prop} {s : FSt} (h : FW c code (fun e s' => ∃ s'', FLe s' s'' ∧ Q e s'') s) : FW c code Q s := fun w0 J a w β hF =>
 yn (c := code) (h w0 J a w β hF) fun _ _ _ ⟨s', β', ⟨s'', hl, q⟩, f⟩ => let ⟨β'', f'⟩ := hl _ _ _ _ _ _ f; ⟨s'', β'', q, f'⟩

section
variable {c : Ctx} {w0 w : World} {J : JJ} {s : FSt} {a : Act} {β : Nat → Option Nat}
theorem FR.newH (h : FR c.N w0 J s a w β) (d E : Nat) {f : FV} {v : Value} (hv : VR w (Imm J w β s) β s v f) (hvv : ∀ id ver, (id, ver) ∈ f.hands → ver ≤ (s.ob id).ver) :
  FR c.N w0 J (s.set d ⟨(s.ob d).ver + 1, .hrow, E, 1, [[f]]⟩) a (w.alloc (.cells #[v] E)) (Zw β d (some w.heap.size)) := by
 obtain ⟨s', hs'⟩ : ∃ s' : FSt, s' = s.set d ⟨(s.ob d).ver + 1, .hrow, E, 1, [[f]]⟩ := ⟨_, rfl⟩
 have cd : s'.ob d = ⟨(s.ob d).ver + 1, .hrow, E, 1, [[f]]⟩ := by rw [hs', FSt.ob_set, if_pos rfl]
 have co : ∀ k, k ≠ d → s'.ob k = s.ob k := fun k hk => by rw [hs', FSt.ob_set, if_neg (fun e => hk e.symm)]
 have bo : ∀ k, k ≠ d → Zw β d (some w.heap.size) k = β k := fun k hk => by unfold Zw; rw [if_neg hk]
 have hst : ∀ b, b < w.heap.size → (w.alloc (.cells #[v] E)).heap[b]? = w.heap[b]? := fun b hb => (XC w (.cells #[v] E)).block b hb
 have hver : ∀ k, (s.ob k).ver ≤ (s'.ob k).ver := fun k => by
  by_cases hk : k = d
  ·subst hk; rw [cd]; exact Nat.le_succ _
  ·rw [co k hk]; exact Nat.le_refl _
 rw [← hs']
 refine h.step (C := fun k => k = d) h.size h.defers (h.bel.alloc h.bel.size _) (fun b hb => ⟨⟨?_, hb.2.1, fun id hid => ?_⟩, hst b hb.1⟩) (fun k => .inl ⟨rfl, by rw [hs']; rfl⟩) (fun k hk => ⟨co k hk, bo k hk, fun hl b hb => hst b ((h.obj k hl).lt hb).2⟩) (fun k _ => hver k) ?_ ?_ ?_ ?_
 ·exact Nat.lt_of_lt_of_le hb.1 (XC w (.cells #[v] E)).size
 ·by_cases hk : id = d
  ·subst hk; rw [yc]; intro e; injection e with e; have := hb.1; omega
  ·rw [bo id hk]; exact hb.2.2 id (by rw [← co id hk]; exact hid)
 ·rintro k rfl hl hv
  rw [cd] at hv
  exact absurd hv (Nat.succ_ne_self _)
 ·rintro k rfl hl hT
  rw [cd, yc]
  refine .ofH ⟨by simp, fun g hg id ver hm => ?_, .slice (some ⟨w.heap.size, 0, none⟩) 1 1, [v], ⟨rfl, .inr ⟨w.heap.size, 1, #[v], rfl, h.bel.size, heap_alloc_new w _, Nat.le_refl _, by simp [maxLen], rfl, rfl⟩⟩, rfl, rfl, fun j u g hu hg => ?_⟩ rfl
  ·simp at hg; subst hg
   exact Nat.le_trans (hvv id ver hm) (hver id)
  ·have hj : j = 0 := by
    have := (List.getElem?_eq_some_iff.1 hg).1
    simp at this; exact this
   subst hj
   have e1 : f = g := by simpa using hg
   have e2 : v = u := by simpa using hu
   subst e1; subst e2
   exact hT v f hv hvv
 ·intro id id' b h1 h2 e1 e2
  by_cases hk : id = d
  ·by_cases hk' : id' = d
   ·rw [hk, hk']
   ·subst hk
    rw [yc] at e1
    rw [bo id' hk'] at e2
    rw [co id' hk'] at h2
    injection e1 with e1
    have := ((h.obj id' h2).lt e2).2
    omega
  ·by_cases hk' : id' = d
   ·subst hk'
    rw [yc] at e2
    rw [bo id hk] at e1
    rw [co id hk] at h1
    injection e2 with e2
    have := ((h.obj id h1).lt e1).2
    omega
   ·rw [bo id hk] at e1
    rw [bo id' hk'] at e2
    rw [co id hk] at h1
    rw [co id' hk'] at h2
    exact h.inj id id' b h1 h2 e1 e2
 ·intro b hb hn
  refine ⟨hst b hb, fun id hl => ?_⟩
  by_cases hk : id = d
  ·subst hk; rw [yc]; intro e; injection e with e; omega
  ·rw [bo id hk]; exact hn id (by rw [← co id hk]; exact hl)
end
section
variable {c : Ctx} {ops : Array Oper} {rest : List Oper} {t : List (Nat × FV)} {ob : List (Nat × zp)} {d : Nat} {ty : TypeId} {pos : String} {af : Array Edge} {gd : Option (Nat × Bool)} {QS : FSt → Prop}
end
end Go.Proofs.Ytbeebjdnapkhhaa
