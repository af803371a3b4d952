/-
  An edge along a topological order, and an edge that closes a path.
-/
import Derived.Test.YthjplkjpehdpfaaZExtPlain
import Derived.Test.YthjplkjpehdpfaaZFmResp
namespace Go.Proofs.Ythjplkjpehdpfaa
set_option linter.unusedVariables false

theorem Ord.inj {n : Nat} {E : List (Nat × Nat)} {o : List Int} (h : Ord n E o) {i j : Nat} (hi : i < n) (hj : j < n) (e : nth o i = nth o j) : i = j := by
 have hl := h.len
 rw [nth_eq (by omega), nth_eq (by omega)] at e
 exact (List.getElem_inj h.nd).1 e
theorem Ord.more {n : Nat} {E : List (Nat × Nat)} {o : List Int} (h : Ord n E o) {i j u v : Nat} (hij : i < j) (hj : j < n) (hu : nth o i = (u : Int)) (hv : nth o j = (v : Int)) : Ord n (E ++ [(u, v)]) o where
 len := h.len
 nd := h.nd
 rng := h.rng
 fwd := fun e he a b ha hb e1 e2 => by
  rcases List.mem_append.1 he with he | he
  ·exact h.fwd e he a b ha hb e1 e2
  ·obtain rfl := List.mem_singleton.1 he
   have := h.inj ha (by omega) (e1.trans hu.symm)
   have := h.inj hb hj (e2.trans hv.symm)
   omega
theorem Rch.tg {n : Nat} {E : List (Nat × Nat)} {i j : Nat} (hE : InN n E) (h : Rch n E [(i : Int)] j) : Tg n (E ++ [(j, i)]) 0 j j := by
 have key : ∀ {v}, Rch n E [(i : Int)] v → Tg n (E ++ [(j, i)]) 0 j v := by
  intro v hv
  induction hv with
  | @start v hv hm =>
   have : v = i := by simp at hm; omega
   subst this
   exact .one (yw.2 ⟨(j, v), by simp, rfl, rfl⟩)
  | @step u v hu hm ih =>
   refine ih.trans (hu.lt hE) (Nat.zero_le _) (.one ?_)
   obtain ⟨e, he, h1, h2⟩ := yw.1 hm
   exact yw.2 ⟨e, List.mem_append_left _ he, h1, h2⟩
 exact key h
end Go.Proofs.Ythjplkjpehdpfaa
