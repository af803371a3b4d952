/-
  Generated histories of queues, bent: they stay histories, with small fields.
-/
import Derived.Test.YthijndjgchbeoaaHistQ2
import Derived.Test.YthijndjgchbeoaaFmOnce12
namespace Go.Proofs.Ythijndjgchbeoaa
set_option linter.unusedVariables false
open Go.RowKit

/-! ### the values in a generated history are small -/
structure VInv (s : HS) : Prop where
  rs : ∀ p, p < 3 → 0 ≤ nth s.rs p ∧ nth s.rs p < s.fresh
  now : ∀ c, c < 2 → 0 ≤ nth s.now c ∧ nth s.now c < s.fresh
  qs : ∀ c, c < 2 → ∀ x ∈ nth s.qs c, 0 ≤ x ∧ x < s.fresh
  res : ∀ j, j < s.out.length → 0 ≤ (nth s.out j).res ∧ (nth s.out j).res < s.fresh
theorem VInv.init : VInv hsInit := by
  have h3 : ∀ p, p < 3 → p = 0 ∨ p = 1 ∨ p = 2 := fun p hp => by omega
  have h2 : ∀ c, c < 2 → c = 0 ∨ c = 1 := fun c hc => by omega
  refine ⟨fun p hp => ?_, fun c hc => ?_, fun c hc x hx => ?_, fun j hj => absurd hj (Nat.not_lt_zero _)⟩
  · rcases h3 p hp with rfl | rfl | rfl <;> decide
  · rcases h2 c hc with rfl | rfl <;> decide
  · rcases h2 c hc with rfl | rfl <;> exact absurd hx (by show ¬ x ∈ ([] : List Int); simp)
theorem set_in {l : List Int} {n i : Nat} {v lo hi : Int} (h : ∀ p, p < n → lo ≤ nth l p ∧ nth l p < hi) (hv : lo ≤ v ∧ v < hi) : ∀ p, p < n → lo ≤ nth (l.set i v) p ∧ nth (l.set i v) p < hi := fun p hp => by
  by_cases e : i = p
  · subst e
    by_cases hl : i < l.length
    · rw [nth_set_same hl]; exact hv
    · rw [List.set_eq_of_length_le (by omega)]; exact h i hp
  · rw [nth_set_other e]; exact h p hp
theorem VInv.step {q : Bool} {i : Nat} {s : HS} (hI : HInv q i s) (h : VInv s) (x : Int) : VInv (hsStep q x s) := by
  unfold hsStep
  have hn : 0 ≤ around x 1000000 := around_lo (by decide)
  have hp : (around x 1000000 % 3).toNat < 3 := by omega
  generalize (around x 1000000 % 3).toNat = p at hp
  generalize around x 1000000 / 3 = m
  have h1 := hI.f1
  split
  · have hfr : s.fresh ≤ (hsOpen q m p s).fresh := by
      show s.fresh ≤ if hsW (hsKind q m) = true then s.fresh + 1 else s.fresh
      split <;> omega
    refine ⟨fun p hp => ?_, fun c hc => ?_, fun c hc x hx => ?_, fun j hj => ?_⟩
    · have := h.rs p hp; exact ⟨this.1, by show nth s.rs p < _; omega⟩
    · have := h.now c hc; exact ⟨this.1, by show nth s.now c < _; omega⟩
    · have := h.qs c hc x hx; exact ⟨this.1, by omega⟩
    · show 0 ≤ (nth (s.out ++ [hsNew q m p s]) j).res ∧ (nth (s.out ++ [hsNew q m p s]) j).res < _
      have hj' : j < s.out.length + 1 := by simpa [hsOpen] using hj
      rcases Nat.lt_or_ge j s.out.length with h2 | h2
      · rw [nth_append_left h2]
        have := h.res j h2
        exact ⟨this.1, by omega⟩
      · have : j = s.out.length := by omega
        subst this
        rw [nth_append_len]
        exact ⟨Int.le_refl _, by show (0 : Int) < _; omega⟩
  · rename_i hop
    have hop : 0 ≤ nth s.op p := by omega
    obtain ⟨hj0, _, _⟩ := hI.opn p hp hop
    have hO := hI.ops _ hj0
    have hE : VInv (hsEffM p s) := by
      unfold hsEffM
      split
      · exact h
      · generalize nth s.out (nth s.op p).toNat = o at hO
        have hkey := hO.key
        have harg := hO.arg
        have hf0 : (0 : Int) < (s.fresh : Int) := by omega
        have hk2 : o.key.toNat < 2 := by omega
        unfold hsEff
        split
        · exact ⟨set_in h.rs ⟨Int.le_refl _, hf0⟩, set_in h.now harg, h.qs, h.res⟩
        · split
          · exact ⟨set_in h.rs (h.now _ hk2), h.now, h.qs, h.res⟩
          · split
            · refine ⟨set_in h.rs ⟨Int.le_refl _, hf0⟩, h.now, fun c hc x hx => ?_, h.res⟩
              have hx' : x ∈ nth (s.qs.set o.key.toNat (nth s.qs o.key.toNat ++ [o.arg])) c := hx
              by_cases e : o.key.toNat = c
              · subst e
                rw [nth_set_same (by rw [hI.q2]; omega)] at hx'
                rcases List.mem_append.1 hx' with h3 | h3
                · exact h.qs _ hc x h3
                · rw [List.mem_singleton] at h3; subst h3; exact harg
              · rw [nth_set_other e] at hx'; exact h.qs c hc x hx'
            · split
              · exact ⟨set_in h.rs ⟨Int.le_refl _, hf0⟩, h.now, h.qs, h.res⟩
              · rename_i y r hq
                refine ⟨set_in h.rs (h.qs _ hk2 y (by rw [hq]; exact List.mem_cons_self)), h.now, fun c hc x hx => ?_, h.res⟩
                have hx' : x ∈ nth (s.qs.set o.key.toNat r) c := hx
                by_cases e : o.key.toNat = c
                · subst e
                  rw [nth_set_same (by rw [hI.q2]; omega)] at hx'
                  exact h.qs _ hc x (by rw [hq]; exact List.mem_cons_of_mem _ hx')
                · rw [nth_set_other e] at hx'; exact h.qs c hc x hx'
    unfold hsEnd
    split
    · exact ⟨hE.rs, hE.now, hE.qs, hE.res⟩
    · split
      · refine ⟨hE.rs, hE.now, hE.qs, fun j hj => ?_⟩
        have hout : (hsDone p (hsEffM p s)).out = (hsEffM p s).out.set (nth (hsEffM p s).op p).toNat { nth (hsEffM p s).out (nth (hsEffM p s).op p).toNat with done := true, res := nth (hsEffM p s).rs p, ret := ((hsEffM p s).time : Int) } := rfl
        have hj' : j < (hsEffM p s).out.length := by rw [hout] at hj; simpa using hj
        show 0 ≤ (nth (hsDone p (hsEffM p s)).out j).res ∧ (nth (hsDone p (hsEffM p s)).out j).res < (hsEffM p s).fresh
        rw [hout]
        by_cases e : (nth (hsEffM p s).op p).toNat = j
        · subst e
          rw [nth_set_same hj']; exact hE.rs p hp
        · rw [nth_set_other e]; exact hE.res j hj'
      · exact hE
theorem hsTo_v (q : Bool) (l : List Int) : ∀ i, VInv (hsTo q l i)
  | 0 => VInv.init
  | i + 1 => (hsTo_v q l i).step (hsTo_inv q l i) _
theorem histQ_res (q : Bool) (l : List Int) : ∀ o ∈ histQ q l, 0 ≤ o.res ∧ o.res ≤ 60 := fun o ho => by
  obtain ⟨x, hx, rfl⟩ := List.mem_map.1 ho
  obtain ⟨j, hj, rfl⟩ := List.getElem_of_mem hx
  have h := (hsTo_v q l (min l.length 60)).res j hj
  have hf := (hsTo_inv q l (min l.length 60)).fi
  rw [nth_eq hj] at h
  rw [(hsFix_same _ _).2.2.2.2.1]
  omega

/-- an operation of a generated history, bent or not -/
structure OpB (q : Bool) (o : OpV) : Prop where
  k : (q = true ∧ (o.k = 3 ∨ o.k = 4)) ∨ (q = false ∧ (o.k = 0 ∨ o.k = 1))
  key : 0 ≤ o.key ∧ o.key ≤ 1
  arg : 0 ≤ o.arg ∧ o.arg ≤ 60
  res : 0 ≤ o.res ∧ o.res ≤ 60
  p : 0 ≤ o.p ∧ o.p ≤ 200
  call : 0 ≤ o.call ∧ o.call ≤ 60
  ret : 0 ≤ o.ret ∧ o.ret ≤ 60
structure Fine (q : Bool) (l : List OpV) : Prop where
  len : l.length ≤ 60
  ops : ∀ o ∈ l, OpB q o
  wf : WFH l
theorem histQ_fine (q : Bool) (l : List Int) : Fine q (histQ q l) :=
  ⟨histQ_len q l, fun o ho => let h := histQ_op q l o ho; ⟨h.k, h.key, h.arg, histQ_res q l o ho, h.p, h.call, h.ret⟩, histQ_wf q l⟩
theorem Fine.inn {q : Bool} {l : List OpV} (h : Fine q l) : ∀ o ∈ l, OpIn o := fun o ho => by
  have := h.ops o ho
  have hk := this.k
  have := this.key
  have := (h.ops o ho).arg
  have := (h.ops o ho).res
  have := (h.ops o ho).p
  have := (h.ops o ho).call
  have := (h.ops o ho).ret
  unfold OpIn I64
  omega
theorem Fine.set {q : Bool} {l : List OpV} (h : Fine q l) {i : Nat} (hi : i < l.length) {o : OpV} (hb : OpB q o) (hf : o.p = (nth l i).p ∧ o.k = (nth l i).k ∧ o.call = (nth l i).call ∧ o.ret = (nth l i).ret ∧ o.done = (nth l i).done ∧ ((nth l i).done = false → o.res = (nth l i).res)) : Fine q (l.set i o) :=
  ⟨by simpa using h.len, fun x hx => by
    rcases List.mem_or_eq_of_mem_set hx with hx | rfl
    · exact h.ops x hx
    · exact hb, h.wf.set hi hf⟩
theorem Fine.bent {q : Bool} {l : List OpV} (h : Fine q l) (at_ how v : Int) : Fine q (bent21 l at_ how v) := by
  unfold bent21
  split
  · rename_i h0; subst h0; exact h
  · rename_i h0
    have hpos : 0 < l.length := List.length_pos_iff.2 h0
    have h9 := around_lo (n := v) (most := 9) (by decide)
    have h9' := around_hi (n := v) (most := 9) (by decide)
    have h6 := around_lo (n := v) (most := 6) (by decide)
    have h6' := around_hi (n := v) (most := 6) (by decide)
    split
    · rename_i i hf
      have hk : bentAt l (around at_ l.length).toNat i < l.length := Nat.mod_lt _ hpos
      have hb := h.ops _ (nth_mem hk)
      rw [List.find?_eq_some_iff_getElem] at hf
      have hd : (nth l (bentAt l (around at_ l.length).toNat i)).done = true := by
        have := hf.1
        unfold bentOk at this
        simp only [Bool.and_eq_true] at this
        exact this.2.1
      exact h.set hk ⟨hb.k, hb.key, hb.arg, ⟨h9, by dsimp only; omega⟩, hb.p, hb.call, hb.ret⟩ ⟨rfl, rfl, rfl, rfl, rfl, fun e => by rw [hd] at e; cases e⟩
    · have hk : (around at_ l.length).toNat < l.length := by
        have h1 := around_lo (n := at_) (most := l.length) (by omega)
        have h2 := around_hi (n := at_) (most := l.length) (by omega)
        omega
      have hb := h.ops _ (nth_mem hk)
      exact h.set hk ⟨hb.k, hb.key, ⟨h6, by dsimp only; omega⟩, hb.res, hb.p, hb.call, hb.ret⟩ ⟨rfl, rfl, rfl, rfl, rfl, fun _ => rfl⟩
def bentH (l : List Int) (a0 a1 a2 b0 b1 b2 : Int) : List OpV :=
  if a0 < 0 then histQ true l
  else if b0 < 0 then bent21 (histQ true l) a0 a1 a2
  else bent21 (bent21 (histQ true l) a0 a1 a2) b0 b1 b2
theorem bentH_fine (l : List Int) (a0 a1 a2 b0 b1 b2 : Int) : Fine true (bentH l a0 a1 a2 b0 b1 b2) := by
  unfold bentH
  split
  · exact histQ_fine true l
  · split
    · exact (histQ_fine true l).bent _ _ _
    · exact ((histQ_fine true l).bent _ _ _).bent _ _ _
end Go.Proofs.Ythijndjgchbeoaa
