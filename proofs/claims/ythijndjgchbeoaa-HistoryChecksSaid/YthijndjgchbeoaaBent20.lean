/-
  simproofref20.Mixed and simproofref20.Bent.
-/
import Derived.Test.YthijndjgchbeoaaRegsWalk
import Derived.Test.YthijndjgchbeoaaSwapsWalk
import Derived.Test.YthijndjgchbeoaaQueuesWalk
import Derived.Test.YthijndjgchbeoaaAppends
namespace Go.Proofs.Ythijndjgchbeoaa
set_option linter.unusedVariables false
open Go.RowKit
attribute [local go_sem ↓] Go.wp_at_zero Go.wp_at_succ

def mixed (l : List Int) (which : Int) : List OpV :=
  if around which 3 = 0 then registers l 12 else if around which 3 = 1 then swaps l 12 else queues l 12

set_option maxHeartbeats 1000000 in
set_option maxRecDepth 100000 in
theorem mixed_any (A : Option Addr) (c : Nat) (l : List Int) (which : Int) (w : World) (h1 : Sl intv w w.heap.size A l) (hl : ∀ x ∈ l, I64 x) (hlen : l.length ≤ 9223372036854775807) (hw : I64 which) :
    Calls Try.prog 21 #[.slice A l.length c, .int .i64 which] w fun e w' => ∃ A1 c1, e = .returned (.slice A1 (mixed l which).length c1) ∧
      w'.ownsRow w.heap.size 33 8 (.slice A1 (mixed l which).length c1) (mixed l which).length (flat OpV.vals (mixed l which)) ∧ Below w.heap.size w w' := by
  have h12 : I64 12 := by unfold I64; omega
  obtain ⟨d, hd⟩ : ∃ d, around which 3 = d := ⟨_, rfl⟩
  have hd0 : 0 ≤ d := hd ▸ around_lo (by omega)
  have hd1 : d < 3 := hd ▸ around_hi (by omega)
  by_cases c0 : d = 0
  · have e : mixed l which = registers l 12 := by rw [mixed, hd, if_pos c0]
    rw [e]
    subst c0
    go_enter Try.func21, Try.ntmps21
    go_wp2_with (first | (go_at_call 23; refine (around_any _ _ _ hw (by omega) (by omega)).mono ?_; rintro e w' ⟨rfl, rfl⟩; rw [hd]) | (go_at_call 39; refine (registers_any _ _ _ _ _ h1 hl hlen h12).mono ?_; rintro e w2 ⟨A1, c1, rfl, ho, hb⟩))
    go_ret
    exact ⟨A1, c1, rfl, ho, hb⟩
  · by_cases c1 : d = 1
    · have e : mixed l which = swaps l 12 := by rw [mixed, hd, if_neg c0, if_pos c1]
      rw [e]
      subst c1
      go_enter Try.func21, Try.ntmps21
      go_wp2_with (first | (go_at_call 23; refine (around_any _ _ _ hw (by omega) (by omega)).mono ?_; rintro e w' ⟨rfl, rfl⟩; rw [hd]) | (go_at_call 40; refine (swaps_any _ _ _ _ _ h1 hl hlen h12).mono ?_; rintro e w2 ⟨A1, c1, rfl, ho, hb⟩))
      go_ret
      exact ⟨A1, c1, rfl, ho, hb⟩
    · have e : mixed l which = queues l 12 := by rw [mixed, hd, if_neg c0, if_neg c1]
      rw [e]
      obtain rfl : d = 2 := by omega
      clear c0 c1
      go_enter Try.func21, Try.ntmps21
      go_wp2_with (first | (go_at_call 23; refine (around_any _ _ _ hw (by omega) (by omega)).mono ?_; rintro e w' ⟨rfl, rfl⟩; rw [hd]) | (go_at_call 41; refine (queues_any _ _ _ _ _ h1 hl hlen h12).mono ?_; rintro e w2 ⟨A1, c1, rfl, ho, hb⟩))
      go_ret
      exact ⟨A1, c1, rfl, ho, hb⟩

/-! ### what the generated operations are -/
theorem outs_le {ev : List EvV} {out : List OpV} {opn : List Int} {k : Nat} (h : GenOk ev k out opn) : out.length ≤ invsE ev k := by rw [h.len]; exact Nat.le_refl _
theorem gen_fine {ev : List EvV} {out : List OpV} {opn : List Int} (hg : EvGood ev) (hl : ev.length ≤ 40) (h : GenOk ev ev.length out opn) (hsm : ∀ o ∈ out, OpSm o) : hCheck out = 0 ∧ (∀ o ∈ out, OpIn o) := by
  have hle : ∀ k, invsE ev k ≤ k := by
    intro k
    induction k with
    | zero => exact Nat.le_refl _
    | succ k ih => unfold invsE; split <;> omega
  have hlen : out.length ≤ 40 := by have := h.len; have := hle ev.length; omega
  refine ⟨h.history hg (Nat.le_refl _) (by omega) fun o ho => (hsm o ho).1, fun o ho => ?_⟩
  obtain ⟨j, hj, rfl⟩ := List.getElem_of_mem ho
  rw [← nth_eq hj]
  have hs := hsm _ (nth_mem hj)
  unfold OpSm at hs
  obtain ⟨c, c1, c2, _, c4⟩ := h.call j hj
  have hp := (hg c (by omega)).1
  have hr : 0 ≤ (nth out j).ret ∧ (nth out j).ret ≤ 40 := by
    cases hd : (nth out j).done with
    | true => obtain ⟨r, a1, a2, _⟩ := h.ret j hj hd; omega
    | false => have := (h.stay j hj hd).1; omega
  unfold OpIn I64
  omega
theorem mixed_fine (l : List Int) (which : Int) : hCheck (mixed l which) = 0 ∧ (∀ o ∈ mixed l which, OpIn o) ∧ (∀ o ∈ mixed l which, OpSm o) ∧ (mixed l which).length ≤ 12 := by
  have hg := events_good l 12
  have hl := events_len l 12
  have hi := events_invs l (most := 12) (by omega)
  unfold mixed
  split
  · have inv := regTo_inv (freshOf l) hg hl _ (Nat.le_refl _)
    exact ⟨(gen_fine hg hl inv.ok inv.sm).1, (gen_fine hg hl inv.ok inv.sm).2, inv.sm, by have := inv.ok.len; unfold registers; omega⟩
  · split
    · have inv := swTo_inv (freshOf l) hg hl _ (Nat.le_refl _)
      exact ⟨(gen_fine hg hl inv.ok inv.sm).1, (gen_fine hg hl inv.ok inv.sm).2, inv.sm, by have := inv.ok.len; unfold swaps; omega⟩
    · have inv := quTo_inv hg hl _ (Nat.le_refl _)
      exact ⟨(gen_fine hg hl inv.ok inv.sm).1, (gen_fine hg hl inv.ok inv.sm).2, inv.sm, by have := inv.ok.len; unfold queues; omega⟩

/-! ### Bent -/
def bentOp (d v : Int) (o : OpV) : OpV :=
  if d = 0 then { o with p := v } else if d = 1 then { o with k := v } else if d = 2 then { o with key := v } else if d = 3 then { o with arg := v } else if d = 4 then { o with res := v } else if d = 5 then { o with call := v } else if d = 6 then { o with ret := v } else { o with done := !o.done }
def bent20 (l : List OpV) (at_ how v : Int) : List OpV :=
  l.set (around at_ l.length).toNat (bentOp (around how 8) v (nth l (around at_ l.length).toNat))
theorem bent20_len (l : List OpV) (at_ how v : Int) : (bent20 l at_ how v).length = l.length := by simp [bent20]
theorem bent20_in {l : List OpV} (h : ∀ o ∈ l, OpIn o) (at_ how : Int) {v : Int} (hv : I64 v) : ∀ o ∈ bent20 l at_ how v, OpIn o := by
  intro o ho
  rcases mem_set_or ho with h1 | h1
  · exact h o h1
  · rcases Nat.lt_or_ge (around at_ l.length).toNat l.length with hlt | hge
    · have ho2 := h _ (nth_mem hlt)
      subst h1
      unfold OpIn at ho2 ⊢
      obtain ⟨a1, a2, a3, a4, a5, a6, a7⟩ := ho2
      unfold bentOp
      repeat' split
      all_goals exact ⟨by assumption, by assumption, by assumption, by assumption, by assumption, by assumption, by assumption⟩
    · rw [bent20, List.set_eq_of_length_le hge] at ho
      exact h o ho
end Go.Proofs.Ythijndjgchbeoaa
