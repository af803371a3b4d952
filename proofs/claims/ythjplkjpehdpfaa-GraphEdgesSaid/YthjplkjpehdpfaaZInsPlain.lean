/-
  An insertion sort by the heads of lists, in plain Lean: what its two loops keep.
-/
import Derived.Test.YthjplkjpehdpfaaZCompPlain
namespace Go.Proofs.Ythjplkjpehdpfaa
set_option linter.unusedVariables false

def zgq (a b : List Nat) : Prop := hdN a ≤ hdN b
structure zfn (L S R : List (List Nat)) : Prop where
 so : S.Pairwise zgq
 pm : (S ++ R).Perm L
structure zfm (L A : List (List Nat)) (x : List Nat) (B R : List (List Nat)) : Prop where
 so : (A ++ B).Pairwise zgq
 gt : ∀ b ∈ B, hdN x < hdN b
 pm : (A ++ x :: B ++ R).Perm L
theorem zfn.open {L S R : List (List Nat)} {x : List Nat} (h : zfn L S (x :: R)) : zfm L S x [] R := ⟨by rw [List.append_nil]; exact h.so, (fun b hb => by cases hb), by simpa using h.pm⟩
theorem zfm.move {L A B R : List (List Nat)} {x y : List Nat} (h : zfm L (A ++ [y]) x B R) (hlt : hdN x < hdN y) : zfm L A x (y :: B) R := ⟨by have := h.so; rwa [List.append_assoc] at this, fun b hb => by
 rcases List.mem_cons.1 hb with rfl | hb
 ·exact hlt
 ·exact h.gt b hb, by
 refine List.Perm.trans ?_ h.pm
 simp only [List.append_assoc, List.cons_append, List.nil_append]
 exact List.Perm.append_left A (List.Perm.swap y x _)⟩
theorem zfm.shut {L A B R : List (List Nat)} {x : List Nat} (h : zfm L A x B R) (hge : ∀ y, A.getLast? = some y → hdN y ≤ hdN x) : zfn L (A ++ x :: B) R := by
 refine ⟨?_, h.pm⟩
 obtain ⟨p1, p2, p3⟩ := List.pairwise_append.1 h.so
 have hax : ∀ a ∈ A, hdN a ≤ hdN x := fun a ha => by
  rcases List.eq_nil_or_concat A with e | ⟨A', y, e⟩
  ·rw [e] at ha; cases ha
  ·rw [List.concat_eq_append] at e
   have hy := hge y (by rw [e]; simp)
   rw [e, List.pairwise_append] at p1
   rw [e] at ha
   rcases List.mem_append.1 ha with ha | ha
   ·exact Nat.le_trans (p1.2.2 a ha y (by simp)) hy
   ·rw [List.mem_singleton.1 ha]; exact hy
 refine List.pairwise_append.2 ⟨p1, List.pairwise_cons.2 ⟨fun b hb => Nat.le_of_lt (h.gt b hb), p2⟩, fun a ha b hb => ?_⟩
 rcases List.mem_cons.1 hb with rfl | hb
 ·exact hax a ha
 ·exact p3 a ha b hb
theorem zfn.start (L : List (List Nat)) : zfn L (L.take 1) (L.drop 1) := ⟨by
 match L with
 | [] => exact .nil
 | x :: L => exact List.pairwise_singleton _ _, by rw [List.take_append_drop]⟩
end Go.Proofs.Ythjplkjpehdpfaa
